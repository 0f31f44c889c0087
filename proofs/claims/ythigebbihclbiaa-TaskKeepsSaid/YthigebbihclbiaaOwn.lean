/- Words of my own: how plain data lies in memory (kinds), rows of a call's own, and the small laws by which they live on. -/
import Derived.Below
import Derived.Deep.Draws
import Derived.Deep.AppendLies
import Derived.Maps.AppendAt
import Derived.Laws.MakeOwn
import Derived.Laws.OwnMore
import Derived.Laws.Rows
import Derived.Lib.Hide
import Derived.Deep.OwnRows
namespace Go.Proofs.Ythigebbihclbiaa
open Go.RowKit

/-- The blocks of w that F names are as they were. -/
def Agree (F : Nat → Prop) (w w' : World) : Prop := ∀ b, F b → b < w.heap.size → w'.heap[b]? = w.heap[b]?
theorem Agree.refl (F : Nat → Prop) (w : World) : Agree F w w := fun _ _ _ => rfl
theorem Agree.of_below {B : Nat} {F : Nat → Prop} {w w' : World} (h : Below B w w') (hF : ∀ b, F b → b < w.heap.size → b < B) : Agree F w w' := fun b hb hl => h.block b (hF b hb hl)
theorem Agree.below {F : Nat → Prop} {w w' : World} (h : Below w.heap.size w w') : Agree F w w' := fun b _ hl => h.block b hl
theorem Agree.grown {F : Nat → Prop} {w w' : World} {row : Option Nat} (h : w.grownBy w' row) (hF : ∀ b, F b → some b ≠ row) : Agree F w w' := fun b hb hl => h.block b hl (hF b hb)

/-- A kind of data: how many cells it takes, and what the cells say; F: the blocks that it leads to. -/
structure Kd (α : Type) where
  sz : Nat
  K : World → (Nat → Prop) → α → List Value → Prop
  len : ∀ {w F x cs}, K w F x cs → cs.length = sz
  one : ∀ {w F x cs}, K w F x cs → ∀ v ∈ cs, v.oneCell' = true
  keep : ∀ {w w' F x cs}, Agree F w w' → K w F x cs → K w' F x cs
  mono : ∀ {w F F' x cs}, (∀ b, F b → b < w.heap.size → F' b) → K w F x cs → K w F' x cs

/-- Some orders have been drawn, nothing else. -/
def Drawn (w w' : World) : Prop := ∃ n, w' = w.drewN n
theorem Drawn.refl (w : World) : Drawn w w := ⟨0, rfl⟩
theorem Drawn.step {w w' : World} (h : Drawn w w') (n : Nat) : Drawn w (w'.drewN n) := by
  obtain ⟨m, rfl⟩ := h
  exact ⟨m + n, World.drewN_drewN ..⟩
theorem Drawn.one {w w' : World} (h : Drawn w w') : Drawn w w'.drew := h.step 1
theorem Drawn.of (w : World) (n : Nat) : Drawn w (w.drewN n) := ⟨n, rfl⟩
theorem Drawn.trans {a b c : World} (h : Drawn a b) (k : Drawn b c) : Drawn a c := by
  obtain ⟨m, rfl⟩ := k
  exact h.step m
theorem below_drewN {B : Nat} {a w : World} (h : Below B a w) (n : Nat) : Below B a (w.drewN n) := ⟨h.os, h.tape, h.output, h.size, h.block⟩
theorem below_then {B : Nat} {w w1 w2 : World} (h : Below B w w1) (hB : B ≤ w1.heap.size) (k : Below w1.heap.size w1 w2) : Below B w w2 := h.trans (k.mono hB)
theorem Drawn.below {w w' : World} (h : Drawn w w') (B : Nat) : Below B w w' := by
  obtain ⟨m, rfl⟩ := h
  exact below_drewN (Below.refl _ _) m
theorem Drawn.agree {w w' : World} (h : Drawn w w') (F : Nat → Prop) : Agree F w w' := fun b _ hl => (h.below w.heap.size).block b hl
theorem Drawn.grown {w w' : World} (h : Drawn w w') (row : Option Nat) : w.grownBy w' row := by
  obtain ⟨m, rfl⟩ := h
  exact ⟨rfl, rfl, rfl, Nat.le_refl _, fun _ _ _ => rfl⟩
theorem below_two (w : World) (a b : Obj) : Below w.heap.size w ((w.alloc a).alloc b) := ((Below.refl _ _).alloc (Nat.le_refl _) _).alloc (by simp) _
theorem below_one (w : World) (a : Obj) : Below w.heap.size w (w.alloc a) := (Below.refl _ _).alloc (Nat.le_refl _) _
theorem bcell {W w1 : World} (hb : Below W.heap.size W w1) : (∀ b o, b < W.heap.size → w1.cell? ⟨b, o, none⟩ = W.cell? ⟨b, o, none⟩) ∧ (∀ b o, b < W.heap.size → w1.frozen? ⟨b, o, none⟩ = W.frozen? ⟨b, o, none⟩) :=
  ⟨fun b o h => hb.cell (p := ⟨b, o, none⟩) h, fun b o h => hb.frozen (p := ⟨b, o, none⟩) h⟩
theorem arr_of_list {cs : Array Value} {l : List Value} (h : cs.toList = l) : cs = l.toArray := by cases cs; simpa using h

section
variable {P : Program} {f : FuncId} {args : Array Value} {w : World} {v : Value}
/-- A quiet call inside a region that draws. -/
theorem quiet_first {n : Nat} (h : Calls P f args (w.drewN n) fun e w' => e = .returned v ∧ Drawn (w.drewN n) w') : Calls P f args (w.drewN n) fun e w'' => e = .returned v ∧ ∃ m, w'' = w.drewN m :=
  h.mono fun _ _ ⟨he, m, hm⟩ => ⟨he, n + m, by rw [hm, World.drewN_drewN]⟩
theorem quiet_add {a n : Nat} (h : Calls P f args (w.drewN (a + n)) fun e w' => e = .returned v ∧ Drawn (w.drewN (a + n)) w') : Calls P f args (w.drewN (a + n)) fun e w'' => e = .returned v ∧ ∃ m, w'' = w.drewN (a + m) :=
  h.mono fun _ _ ⟨he, m, hm⟩ => ⟨he, n + m, by rw [hm, World.drewN_drewN, Nat.add_assoc]⟩
end

namespace Kd
variable {α β : Type}

def scal (enc : α → Value) (P : α → Prop) (h1 : ∀ x, (enc x).oneCell' = true) : Kd α where
  sz := 1
  K _ _ x cs := cs = [enc x] ∧ P x
  len h := by rw [h.1]; rfl
  one h := by rw [h.1]; simpa using h1 _
  keep _ h := h
  mono _ h := h
def int : Kd Int := scal (Value.int .i64) (fun _ => True) (fun _ => rfl)
def bool : Kd Bool := scal Value.bool (fun _ => True) (fun _ => rfl)
def string : Kd ByteArray := scal Value.string (fun s => s.size ≤ 9223372036854775807) (fun _ => rfl)
def u32 : Kd Nat := scal (fun x => Value.int .u32 (x : Int)) (fun x => x < 4294967296) (fun _ => rfl)
def u8 : Kd Nat := scal (fun x => Value.int .u8 (x : Int)) (fun x => x < 256) (fun _ => rfl)

/-- The elements of a slice at address A, in memory. -/
def Row (d : Kd α) (w : World) (F : Nat → Prop) (A : Option Addr) (xs : List α) : Prop :=
  ∀ i (h : i < xs.length), ∃ b o cs, A = some ⟨b, o, none⟩ ∧ F b ∧ d.K w F xs[i] cs ∧ ∀ j v, cs[j]? = some v → w.cell? ⟨b, o + (i * d.sz + j), none⟩ = some v

theorem Row.nil (d : Kd α) (w : World) (F : Nat → Prop) (A : Option Addr) : d.Row w F A [] := fun i h => absurd h (Nat.not_lt_zero i)
theorem Row.keep {d : Kd α} {w w' : World} {F : Nat → Prop} {A : Option Addr} {xs : List α} (h : d.Row w F A xs) (ha : Agree F w w') : d.Row w' F A xs := fun i hi => by
  obtain ⟨b, o, cs, hA, hb, hK, hc⟩ := h i hi
  exact ⟨b, o, cs, hA, hb, d.keep ha hK, fun j v hj => by
    have hcell := hc j v hj
    exact (World.cell?_of_block (ha b hb (World.block_lt_of_cell? w _ hcell))).trans hcell⟩
theorem Row.mono {d : Kd α} {w : World} {F F' : Nat → Prop} {A : Option Addr} {xs : List α} (hz : 0 < d.sz) (h : d.Row w F A xs) (hF : ∀ b, F b → b < w.heap.size → F' b) : d.Row w F' A xs := fun i hi => by
  obtain ⟨b, o, cs, hA, hb, hK, hc⟩ := h i hi
  have hl := d.len hK
  have hcell := hc 0 (cs[0]'(by omega)) (List.getElem?_eq_getElem (by omega))
  exact ⟨b, o, cs, hA, hF b hb (World.block_lt_of_cell? w _ hcell), d.mono hF hK, hc⟩
theorem Row.take {d : Kd α} {w : World} {F : Nat → Prop} {A : Option Addr} {xs : List α} (h : d.Row w F A xs) (k : Nat) : d.Row w F A (xs.take k) := fun i hi => by
  have hi' : i < xs.length := by rw [List.length_take] at hi; omega
  rw [List.getElem_take]
  exact h i hi'
theorem Row.drop {d : Kd α} {w : World} {F : Nat → Prop} {A : Option Addr} {xs : List α} (h : d.Row w F A xs) (k c : Nat) (hc : xs.length ≤ c) :
    d.Row w F (if c = k then A else A.map (·.add (k * d.sz))) (xs.drop k) := fun i hi => by
  rw [List.length_drop] at hi
  have hi' : k + i < xs.length := by omega
  obtain ⟨b, o, cs, rfl, hb, hK, hcell⟩ := h (k + i) hi'
  rw [if_neg (by omega)]
  refine ⟨b, o + k * d.sz, cs, ?_, hb, by rw [List.getElem_drop]; exact hK, fun j v hj => ?_⟩
  · simp only [Option.map_some, Addr.add]
    split <;> simp_all
  · rw [show o + k * d.sz + (i * d.sz + j) = o + ((k + i) * d.sz + j) by rw [Nat.add_mul]; omega]
    exact hcell j v hj

/-- A slice, by its value: nil, empty and other slices alike. -/
def Sl (d : Kd α) (w : World) (F : Nat → Prop) (xs : List α) (v : Value) : Prop :=
  ∃ A c, v = .slice A xs.length c ∧ xs.length ≤ c ∧ c ≤ 9223372036854775807 ∧ d.Row w F A xs
theorem Sl.keep {d : Kd α} {w w' : World} {F : Nat → Prop} {v : Value} {xs : List α} (h : d.Sl w F xs v) (ha : Agree F w w') : d.Sl w' F xs v := by
  obtain ⟨A, c, e, h1, h2, h3⟩ := h
  exact ⟨A, c, e, h1, h2, h3.keep ha⟩
theorem Sl.mono {d : Kd α} (hz : 0 < d.sz) {w : World} {F F' : Nat → Prop} {v : Value} {xs : List α} (h : d.Sl w F xs v) (hF : ∀ b, F b → b < w.heap.size → F' b) : d.Sl w F' xs v := by
  obtain ⟨A, c, e, h1, h2, h3⟩ := h
  exact ⟨A, c, e, h1, h2, h3.mono hz hF⟩
theorem Sl.nil (d : Kd α) (w : World) (F : Nat → Prop) : d.Sl w F [] (.slice none 0 0) := ⟨none, 0, rfl, Nat.le_refl _, by omega, Row.nil _ _ _ _⟩

def slice (d : Kd α) (hz : 0 < d.sz) : Kd (List α) where
  sz := 1
  K w F xs cs := ∃ v, cs = [v] ∧ d.Sl w F xs v
  len h := by obtain ⟨v, rfl, _⟩ := h; rfl
  one h := by obtain ⟨v, rfl, _, _, rfl, _⟩ := h; simp [Value.oneCell']
  keep ha h := by obtain ⟨v, rfl, h⟩ := h; exact ⟨v, rfl, h.keep ha⟩
  mono hF h := by obtain ⟨v, rfl, h⟩ := h; exact ⟨v, rfl, h.mono hz hF⟩

def pair (a : Kd α) (b : Kd β) : Kd (α × β) where
  sz := a.sz + b.sz
  K w F x cs := ∃ c1 c2, cs = c1 ++ c2 ∧ a.K w F x.1 c1 ∧ b.K w F x.2 c2
  len h := by obtain ⟨c1, c2, rfl, h1, h2⟩ := h; rw [List.length_append, a.len h1, b.len h2]
  one h := by
    obtain ⟨c1, c2, rfl, h1, h2⟩ := h
    intro v hv
    rcases List.mem_append.1 hv with hv | hv
    · exact a.one h1 v hv
    · exact b.one h2 v hv
  keep ha h := by obtain ⟨c1, c2, rfl, h1, h2⟩ := h; exact ⟨c1, c2, rfl, a.keep ha h1, b.keep ha h2⟩
  mono hF h := by obtain ⟨c1, c2, rfl, h1, h2⟩ := h; exact ⟨c1, c2, rfl, a.mono hF h1, b.mono hF h2⟩

def iso (d : Kd α) (f : β → α) : Kd β where
  sz := d.sz
  K w F x cs := d.K w F (f x) cs
  len h := d.len h
  one h := d.one h
  keep ha h := d.keep ha h
  mono hF h := d.mono hF h

/-! #### a row of the call's own -/
/-- The cells of a list of elements, one behind the other. -/
def Cs (d : Kd α) (w : World) (F : Nat → Prop) (xs : List α) (cs : List Value) : Prop :=
  cs.length = xs.length * d.sz ∧ ∀ i (h : i < xs.length), d.K w F xs[i] ((cs.drop (i * d.sz)).take d.sz)
theorem Cs.nil (d : Kd α) (w : World) (F : Nat → Prop) : d.Cs w F [] [] := ⟨by simp, fun i h => absurd h (Nat.not_lt_zero i)⟩
theorem Cs.keep {d : Kd α} {w w' : World} {F : Nat → Prop} {xs : List α} {cs : List Value} (h : d.Cs w F xs cs) (ha : Agree F w w') : d.Cs w' F xs cs := ⟨h.1, fun i hi => d.keep ha (h.2 i hi)⟩
theorem Cs.mono {d : Kd α} {w : World} {F F' : Nat → Prop} {xs : List α} {cs : List Value} (h : d.Cs w F xs cs) (hF : ∀ b, F b → b < w.heap.size → F' b) : d.Cs w F' xs cs := ⟨h.1, fun i hi => d.mono hF (h.2 i hi)⟩
theorem Cs.append {d : Kd α} {w : World} {F : Nat → Prop} {xs ys : List α} {cs ds : List Value} (h : d.Cs w F xs cs) (h' : d.Cs w F ys ds) : d.Cs w F (xs ++ ys) (cs ++ ds) := by
  refine ⟨by rw [List.length_append, h.1, h'.1, List.length_append, Nat.add_mul], fun i hi => ?_⟩
  rcases Nat.lt_or_ge i xs.length with hx | hx
  · rw [List.getElem_append_left hx]
    have h1 : (i + 1) * d.sz ≤ cs.length := by rw [h.1]; exact Nat.mul_le_mul_right _ (by omega)
    rw [Nat.add_mul, Nat.one_mul] at h1
    rw [List.drop_append_of_le_length (by omega), List.take_append_of_le_length (by rw [List.length_drop]; omega)]
    exact h.2 i hx
  · rw [List.length_append] at hi
    rw [List.getElem_append_right hx]
    have e : i * d.sz = cs.length + (i - xs.length) * d.sz := by rw [h.1, ← Nat.add_mul]; congr 1; omega
    rw [e, List.drop_append]
    rw [List.drop_of_length_le (by omega), List.nil_append, Nat.add_sub_cancel_left]
    exact h'.2 _ (by omega)
theorem Cs.single {d : Kd α} {w : World} {F : Nat → Prop} {x : α} {cs : List Value} (h : d.K w F x cs) : d.Cs w F [x] cs := by
  refine ⟨by rw [d.len h]; simp, fun i hi => ?_⟩
  have : i = 0 := by simpa using hi
  subst this
  rw [Nat.zero_mul, List.drop_zero, List.take_of_length_le (by rw [d.len h]; exact Nat.le_refl _)]
  exact h

/-- v: a slice of the call's own (nil, or a whole block from base on), that holds xs, whose elements lead to F alone, and F is not its block. -/
def Own (d : Kd α) (e : TypeId) (w : World) (base : Nat) (F : Nat → Prop) (v : Value) (xs : List α) : Prop :=
  ∃ cs, w.ownsRow base e d.sz v xs.length cs ∧ d.Cs w F xs cs ∧ ∀ b, F b → v.ownBlock ≠ some b

theorem Own.nil (d : Kd α) (e : TypeId) (w : World) (base : Nat) (F : Nat → Prop) : d.Own e w base F (.slice none 0 0) [] :=
  ⟨[], World.ownsRow_nil _ _ _ _, Cs.nil _ _ _, fun b _ => by simp [Value.ownBlock]⟩
theorem Own.grown {d : Kd α} {e : TypeId} {w w' : World} {base : Nat} {F : Nat → Prop} {v : Value} {xs : List α} {row : Option Nat} (h : d.Own e w base F v xs) (hg : w.grownBy w' row) (hne : v.ownBlock = none ∨ v.ownBlock ≠ row) (hF : ∀ b, F b → some b ≠ row) : d.Own e w' base F v xs := by
  obtain ⟨cs, h1, h2, h3⟩ := h
  exact ⟨cs, h1.kept hg hne, h2.keep (Agree.grown hg hF), h3⟩
theorem grownBy_of_below {w w1 : World} (h : Below w.heap.size w w1) (row : Option Nat) : w.grownBy w1 row := ⟨h.os, h.tape, h.output, h.size, fun i hi _ => h.block i hi⟩
theorem Own.below {d : Kd α} {e : TypeId} {w w' : World} {base : Nat} {F : Nat → Prop} {v : Value} {xs : List α} (h : d.Own e w base F v xs) (hb : Below w.heap.size w w') : d.Own e w' base F v xs :=
  h.grown (grownBy_of_below hb none) (by cases v.ownBlock <;> simp) (fun _ _ => by simp)
theorem Own.lt {d : Kd α} {e : TypeId} {w : World} {base : Nat} {F : Nat → Prop} {v : Value} {xs : List α} (h : d.Own e w base F v xs) : ∀ k, v.ownBlock = some k → base ≤ k ∧ k < w.heap.size := by
  obtain ⟨cs, h1, _⟩ := h
  exact h1.lt
theorem Own.form {d : Kd α} {e : TypeId} {w : World} {base : Nat} {F : Nat → Prop} {v : Value} {xs : List α} (h : d.Own e w base F v xs) (hn : 0 < xs.length) :
    ∃ g cap, v = .slice (some ⟨g, 0, none⟩) xs.length cap ∧ base ≤ g ∧ g < w.heap.size := by
  obtain ⟨cs, h1, _⟩ := h
  exact h1.form hn
theorem Own.slice {d : Kd α} {e : TypeId} {w : World} {base : Nat} {F : Nat → Prop} {v : Value} {xs : List α} (h : d.Own e w base F v xs) : ∃ A c, v = .slice A xs.length c ∧ xs.length ≤ 9223372036854775807 := by
  obtain ⟨cs, ⟨_, h1⟩, _⟩ := h
  rcases h1 with ⟨rfl, h0⟩ | ⟨g, cap, cur, rfl, _, _, h2, h3, _⟩
  · exact ⟨none, 0, by rw [h0], by omega⟩
  · exact ⟨_, cap, rfl, by simp only [maxLen] at h3; omega⟩
/-- What is owned reads as a slice. -/
theorem Own.sl {d : Kd α} {e : TypeId} {w : World} {base : Nat} {F : Nat → Prop} {v : Value} {xs : List α} (h : d.Own e w base F v xs) : d.Sl w (fun b => F b ∨ v.ownBlock = some b) xs v := by
  obtain ⟨cs, h1, h2, h3⟩ := h
  rcases h1.2 with ⟨rfl, h0⟩ | ⟨g, cap, cur, rfl, hb, hh, hn, hc, hsz, ht⟩
  · obtain rfl : xs = [] := List.length_eq_zero_iff.1 h0
    exact Sl.nil _ _ _
  · refine ⟨_, cap, rfl, hn, by simp only [maxLen] at hc; omega, fun i hi => ⟨g, 0, _, rfl, .inr rfl, d.mono (fun b hb _ => .inl hb) (h2.2 i hi), fun j u hj => ?_⟩⟩
    have hj' : j < d.sz := by
      have := (List.getElem?_eq_some_iff.1 hj).1
      rw [List.length_take] at this
      omega
    rw [List.getElem?_take, if_pos hj', List.getElem?_drop] at hj
    have hc := h1.cells (g := g) rfl _ _ hj
    have ha : (⟨g, 0, none⟩ : Addr).add (i * d.sz + j) = ⟨g, 0 + (i * d.sz + j), none⟩ := by unfold Addr.add; split <;> simp_all
    rwa [ha] at hc
theorem Own.sl_to {d : Kd α} (hz : 0 < d.sz) {e : TypeId} {w : World} {base : Nat} {F F' : Nat → Prop} {v : Value} {xs : List α} (h : d.Own e w base F v xs) (hF : ∀ b, F b → b < w.heap.size → F' b) (hv : ∀ b, base ≤ b → b < w.heap.size → F' b) : d.Sl w F' xs v :=
  h.sl.mono hz fun b hb hl => hb.elim (fun hb => hF b hb hl) (fun hb => hv b (h.lt b hb).1 hl)

/-- append(v, y): behind 'at_builtin'; the world has the variadic's box. -/
theorem app {P : Program} {ops : Array Oper} {rest : List Oper} {o : Oper} {a : Act} {Q : Exit → Act → World → Prop} {W : World} (d : Kd α) (base : Nat) (F : Nat → Prop)
    (hgd : o.guard = none) (s x : Operand) (t e : TypeId) (z : Value) (bytes : Nat)
    (ho : o.op = .call { callee := .builtin .append, args := #[s, x], argTypes := #[t, t] })
    (ht : P.underlying t = some (.slice e)) (hinfo : (P.info? e).map (fun i => (i.zero, i.size, i.bytes)) = some (some z, d.sz, bytes)) (hz : z.cells.size = d.sz) (hs0 : 0 < d.sz) (hb0 : 0 < bytes)
    (v : Value) (xs : List α) (y : α) (cs : Array Value) (hs : a.eval s = v) (hx : a.eval x = .slice (some ⟨W.heap.size, 0, none⟩) 1 1) (hy : d.K W F y cs.toList)
    (HO : d.Own e W base F v xs) (hbase : base ≤ W.heap.size) (hF : ∀ b, F b → b < W.heap.size) (hl : (xs.length + 1) * bytes ≤ 140737488355328)
    (h : ∀ v1 w1, d.Own e w1 base F v1 (xs ++ [y]) → W.grownBy w1 v.ownBlock → (v1.ownBlock = v.ownBlock ∨ ∃ b, v1.ownBlock = some b ∧ W.heap.size ≤ b) → wpList P ops Q rest (a.put o.dst v1) w1) :
    wpList P ops Q (o :: rest) a (W.alloc (.cells cs e)) := by
  obtain ⟨i0, hi, hzz⟩ := Option.map_eq_some_iff.1 hinfo
  simp only [Prod.mk.injEq] at hzz
  obtain ⟨hz0, hz1, hz2⟩ := hzz
  obtain ⟨ds, h1, h2, h3⟩ := HO
  have hlen : xs.length + 1 ≤ 140737488355328 := Nat.le_trans (Nat.le_mul_of_pos_right _ hb0) hl
  refine wpList_append_own_at (W.alloc (.cells cs e)) hgd s x t ho base e i0 z d.sz bytes ht hi hz0 hz1 hz2 hz hs0 v xs.length ds hs (h1.alloc _) ⟨W.heap.size, 0, none⟩ 1 1 cs.toList hx (by rw [d.len hy, Nat.one_mul])
    (World.news_of_block (heap_alloc_new W _)) (d.one hy) (by simp only [maxLen]; omega) hl (by simp; omega) ?_
  intro v1 w1 hown hg _ hat
  have hg' : W.grownBy w1 v.ownBlock := World.grownBy.trans (World.grownBy_alloc W _ _) hg
  have hA : Agree F W w1 := Agree.grown hg' fun b hb e => h3 b hb e.symm
  refine h v1 w1 ⟨ds ++ cs.toList, by simpa using hown, (h2.append (Cs.single hy)).keep hA, fun b hb => ?_⟩ hg' ?_
  · rcases hat with hat | hat
    · rw [hat]; exact h3 b hb
    · rw [hat]
      intro he
      have := hF b hb
      simp at he
      omega
  · rcases hat with hat | hat
    · exact .inl hat
    · exact .inr ⟨_, hat, by simp⟩
end Kd
end Go.Proofs.Ythigebbihclbiaa

/- Rows of the call's own that hold scalars: read, written, made. -/
namespace Go.Proofs.Ythigebbihclbiaa
open Go.RowKit
namespace Kd
variable {α : Type}
/-- No block at all: what scalars lead to. -/
def NoB : Nat → Prop := fun _ => False
section
variable {enc : α → Value} {P : α → Prop} {h1 : ∀ x, (enc x).oneCell' = true} {e : TypeId} {w : World} {base : Nat} {F : Nat → Prop} {g n cap : Nat} {xs : List α}
theorem Cs.scal_iff {cs : List Value} : (scal enc P h1).Cs w F xs cs ↔ cs = xs.map enc ∧ ∀ x ∈ xs, P x := by
  constructor
  · rintro ⟨hl, h⟩
    have hl' : cs.length = xs.length := by simpa [scal] using hl
    refine ⟨List.ext_getElem (by simp [hl']) fun i hi hj => ?_, fun x hx => ?_⟩
    · have := (h i (by omega)).1
      rw [List.getElem_map]
      simp only [scal, Nat.mul_one] at this
      rw [List.take_one, List.head?_drop, List.getElem?_eq_getElem hi] at this
      simpa using this
    · obtain ⟨i, hi, rfl⟩ := List.getElem_of_mem hx
      exact (h i hi).2
  · rintro ⟨rfl, h⟩
    refine ⟨by simp [scal], fun i hi => ⟨?_, h _ (List.getElem_mem _)⟩⟩
    simp only [scal, Nat.mul_one]
    rw [List.take_one, List.head?_drop]
    simp [hi]
theorem Own.cell (h : (scal enc P h1).Own e w base F (.slice (some ⟨g, 0, none⟩) n cap) xs) (i : Nat) (hi : i < xs.length) : w.cell? ⟨g, i, none⟩ = some (enc xs[i]) ∧ w.frozen? ⟨g, i, none⟩ = false ∧ P xs[i] := by
  obtain ⟨cs, h2, h3, _⟩ := h
  obtain ⟨rfl, hP⟩ := Cs.scal_iff.1 h3
  have hn : n = xs.length := by
    rcases h2.2 with ⟨he, _⟩ | ⟨_, _, _, he, _⟩
    · cases he
    · exact (Value.slice.inj he).2.1
  subst hn
  refine ⟨?_, h2.frozenAt i, hP _ (List.getElem_mem _)⟩
  rw [h2.cellAt i (by simpa [scal] using hi)]
  simp [hi]
theorem Own.set (h : (scal enc P h1).Own e w base F (.slice (some ⟨g, 0, none⟩) n cap) xs) (i : Nat) (x : α) (hx : P x) :
    (scal enc P h1).Own e (w.setCell ⟨g, i, none⟩ (enc x)) base F (.slice (some ⟨g, 0, none⟩) n cap) (xs.set i x) ∧ w.grownBy (w.setCell ⟨g, i, none⟩ (enc x)) (some g) := by
  obtain ⟨cs, h2, h3, h4⟩ := h
  obtain ⟨rfl, hP⟩ := Cs.scal_iff.1 h3
  have hn : n = xs.length := by
    rcases h2.2 with ⟨he, _⟩ | ⟨_, _, _, he, _⟩
    · cases he
    · exact (Value.slice.inj he).2.1
  subst hn
  obtain ⟨k1, k2⟩ := h2.stored i (enc x)
  refine ⟨⟨(xs.set i x).map enc, ?_, Cs.scal_iff.2 ⟨rfl, fun y hy => ?_⟩, h4⟩, k2⟩
  · rw [List.length_set, List.map_set]; exact k1
  · rcases List.mem_or_eq_of_mem_set hy with hy | rfl
    · exact hP y hy
    · exact hx
theorem Own.made (W : World) (base : Nat) (e : TypeId) (z : α) (m : Nat) (hz : P z) (hb : base ≤ W.heap.size) (hm : m ≤ 9223372036854775807) :
    (scal enc P h1).Own e (W.alloc (.cells (madeCells #[enc z] m) e)) base NoB (.slice (some ⟨W.heap.size, 0, none⟩) m m) (List.replicate m z) := by
  have h := World.ownsRow_lit (base := base) (e := e) (size := 1) W (madeCells #[enc z] m) m hb (by simpa [maxLen] using hm) (by simp [size_madeCells])
  have hl : (madeCells #[enc z] m).toList = (List.replicate m z).map enc := by
    apply List.ext_getElem
    · simp [madeCells]
    · intro i h1 h2
      simp [madeCells, Nat.mod_one]
  rw [hl] at h
  exact ⟨_, by simpa [scal] using h, Cs.scal_iff.2 ⟨rfl, fun x hx => by rw [List.eq_of_mem_replicate hx]; exact hz⟩, fun b hb => hb.elim⟩
end
/-- make([]T, n) of a one-celled T, laid ahead of the walk. -/
theorem run_made {Pg : Program} (t e : TypeId) (z : Value) (bytes : Nat) (ht : Pg.underlying t = some (.slice e)) (hinfo : (Pg.info? e).map (fun i => (i.zero, i.size, i.bytes)) = some (some z, 1, bytes)) (hz : z.cells = #[z]) (hb0 : 0 < bytes)
    (m : Nat) (hn : m * bytes ≤ 281474976710656) :
    ∀ W : World, (Instr.makeSlice t (.int .i64 (m : Int)) (.int .i64 (m : Int))).run Pg W = .ok (.slice (some ⟨W.heap.size, 0, none⟩) m m) (W.alloc (.cells (madeCells #[z] m) e)) := by
  intro W
  have hm : m ≤ 281474976710656 := Nat.le_trans (Nat.le_mul_of_pos_right _ hb0) hn
  exact run_make_row' t e z bytes ht hinfo hz .i64 .i64 m (by rw [Nat.mul_comm]; exact hn) (by omega) W
/-- The same, the box's number given apart. -/
theorem app_at {P : Program} {ops : Array Oper} {rest : List Oper} {o : Oper} {a : Act} {Q : Exit → Act → World → Prop} {W : World} (d : Kd α) (base : Nat) (F : Nat → Prop)
    (hgd : o.guard = none) (s x : Operand) (t e : TypeId) (z : Value) (bytes : Nat)
    (ho : o.op = .call { callee := .builtin .append, args := #[s, x], argTypes := #[t, t] })
    (ht : P.underlying t = some (.slice e)) (hinfo : (P.info? e).map (fun i => (i.zero, i.size, i.bytes)) = some (some z, d.sz, bytes)) (hz : z.cells.size = d.sz) (hs0 : 0 < d.sz) (hb0 : 0 < bytes)
    (v : Value) (xs : List α) (y : α) (cs : Array Value) (hs : a.eval s = v) (H : Nat) (hH : W.heap.size = H) (hx : a.eval x = .slice (some ⟨H, 0, none⟩) 1 1) (hy : d.K W F y cs.toList)
    (HO : d.Own e W base F v xs) (hbase : base ≤ W.heap.size) (hF : ∀ b, F b → b < W.heap.size) (hl : (xs.length + 1) * bytes ≤ 140737488355328)
    (h : ∀ v1 w1, d.Own e w1 base F v1 (xs ++ [y]) → W.grownBy w1 v.ownBlock → (v1.ownBlock = v.ownBlock ∨ ∃ b, v1.ownBlock = some b ∧ W.heap.size ≤ b) → wpList P ops Q rest (a.put o.dst v1) w1) :
    wpList P ops Q (o :: rest) a (W.alloc (.cells cs e)) := by
  subst hH
  exact app d base F hgd s x t e z bytes ho ht hinfo hz hs0 hb0 v xs y cs hs hx hy HO hbase hF hl h
end Kd
end Go.Proofs.Ythigebbihclbiaa
