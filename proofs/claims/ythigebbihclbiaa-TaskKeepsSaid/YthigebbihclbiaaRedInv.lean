/- task.Reduce: the plain side, and its two predicates. -/
import Derived.Test.YthigebbihclbiaaClone
import Derived.Test.YthigebbihclbiaaBeforeW
import Derived.Laws.EntriesVeiled
namespace Go.Proofs.Ythigebbihclbiaa
open Go.RowKit

def befAt (ts : List Task) (j k : Nat) : Bool := (rowOf (beforeOf ts) j).getD k false
def redAfter (ts : List Task) (al : List Int) : List Int := al.filter (fun k => !al.any (fun j => befAt ts j.toNat k.toNat))
def redTask (ts : List Task) (t : Task) : Task := { t with after := redAfter ts t.after }
def reduceOf (s : Shop) : Shop := ⟨s.tasks.map (redTask s.tasks), s.stations⟩
/-- What task.Reduce returns. -/
def reducePub (s : Shop) : Shop := if checkOf s = 0 then reduceOf s else ⟨[], []⟩

/-- Box T leads to a matrix of n rows of n bools that reads as f, in blocks below N. -/
def BoolsAt (W : World) (T n : Nat) (f : Nat → Nat → Bool) (N : Nat) : Prop :=
  T < N ∧ ∃ g, g < N ∧ W.cell? ⟨T, 0, none⟩ = some (.slice (some ⟨g, 0, none⟩) n n) ∧
    ∀ j, j < n → ∃ r c, r < N ∧ W.cell? ⟨g, j, none⟩ = some (.slice (some ⟨r, 0, none⟩) n c) ∧ ∀ k, k < n → W.cell? ⟨r, k, none⟩ = some (.bool (f j k))
theorem BoolsAt.below {W W' : World} {T n N : Nat} {f : Nat → Nat → Bool} (h : BoolsAt W T n f N) (hb : Below N W W') : BoolsAt W' T n f N := by
  obtain ⟨hT, g, hg, c0, hr⟩ := h
  refine ⟨hT, g, hg, (hb.cell (show T < N from hT)).trans c0, fun j hj => ?_⟩
  obtain ⟨r, c, h1, c1, c2⟩ := hr j hj
  exact ⟨r, c, h1, (hb.cell (show g < N from hg)).trans c1, fun k hk => (hb.cell (show r < N from h1)).trans (c2 k hk)⟩
/-- What before returns, put into a box. -/
theorem BoolsAt.of {W : World} {T base g n N : Nat} {hs : List Hdr} {ts : List Task} (hT : T < N) (hm : Mat W base g n hs (beforeOf ts)) (hN : W.heap.size ≤ N) (hc : W.cell? ⟨T, 0, none⟩ = some (.slice (some ⟨g, 0, none⟩) n n)) (hn : n = ts.length) (ho : (orderOf ts).length = ts.length) : BoolsAt W T n (befAt ts) N := by
  subst hn
  have hg : g < W.heap.size := (hm.outer.lt g rfl).2
  refine ⟨hT, g, by omega, hc, fun j hj => ?_⟩
  have hjs : j < hs.length := by rw [hm.hl]; exact hj
  have hjm : j < (beforeOf ts).length := by rw [hm.ml]; exact hj
  obtain ⟨c1, _, _⟩ := hm.outer.cell j hjs
  have hi := hm.inner j _ _ (List.getElem?_eq_getElem hjs) (List.getElem?_eq_getElem hjm)
  have hl : (beforeOf ts)[j].length = ts.length := by
    have := beforeOf_row ts ho j hj
    simpa [rowOf, hjm] using this
  obtain ⟨r, c, he, hr1, hr2⟩ := hi.form (by omega)
  rw [he, hl] at c1
  rw [he] at hi
  refine ⟨r, c, by omega, c1, fun k hk => ?_⟩
  have hk' : k < (beforeOf ts)[j].length := by omega
  rw [(hi.cell k hk').1]
  simp [befAt, rowOf, hjm, hk']

theorem red11 (f : Nat → Nat → Bool) (T kb n k N : Nat) (al : List Int) (w : World) (h : BoolsAt w T n f N) (hN : N ≤ w.heap.size) (hk : k < n) (hc : w.cell? ⟨kb, 0, none⟩ = some (.int .i64 (k : Int))) (ha : ∀ x ∈ al, 0 ≤ x ∧ x < n) (hn : n ≤ 24) :
    PredOn 51 #[.pointer (some ⟨T, 0, none⟩), .pointer (some ⟨kb, 0, none⟩)] (fun W x v => v = .int .i64 x) (fun j => f j.toNat k) al w := by
  rintro W x v hx hb rfl
  obtain ⟨h0, h1⟩ := ha x hx
  obtain ⟨j, rfl⟩ := Int.eq_ofNat_of_zero_le h0
  have hj : j < n := by omega
  obtain ⟨_, g, _, c0, hrows⟩ := h.below (hb.mono hN)
  obtain ⟨r, c, _, c1, c2⟩ := hrows j hj
  replace c2 := c2 k hk
  have kc := (hb.cell (World.block_lt_of_cell? w _ hc)).trans hc
  show Calls Try.prog 51 #[_, _, _] W fun e w' => e = .returned (.bool (f j k)) ∧ _
  generalize f j k = d at *
  clear hrows hc h ha hx
  go_enter Try.func51, Try.ntmps51
  go_wp2_with fail
  go_region
  go_wp2_with fail
  go_ret
  exact ⟨rfl, (Drawn.one (Drawn.refl _)).below _⟩
theorem eg_red11 : ∀ args w, (callFunc 51 args).run Try.prog w = .ok (.enter 51 args) w := enters_of Try.func51 (by kernel_rfl) rfl

theorem red1_calls (f : Nat → Nat → Bool) (T t8 n k N c3 : Nat) (A3 : Option Addr) (F : Nat → Prop) (al : List Int) (w : World) (h : BoolsAt w T n f N) (hN : N ≤ w.heap.size) (hk : k < n) (hs : Kd.int.Sl w F al (.slice A3 al.length c3)) (hc : w.cell? ⟨t8, 3, none⟩ = some (.slice A3 al.length c3))
    (ha : ∀ x ∈ al, 0 ≤ x ∧ x < n) (hn : n ≤ 24) :
    Calls Try.prog 49 #[.int .i64 (k : Int), .pointer (some ⟨t8, 0, none⟩), .pointer (some ⟨T, 0, none⟩)] w fun e w' => e = .returned (.bool (al.any (fun j => f j.toNat k))) ∧ Below w.heap.size w w' := by
  have hb := below_one w (.cells #[.int .i64 (k : Int)] 3)
  have hcall := containsFunc_int _ F al 51 _ _ _ (hs.keep (Agree.below hb)) eg_red11 (red11 f T w.heap.size n k N al (w.alloc (.cells #[.int .i64 (k : Int)] 3)) (h.below (hb.mono hN)) (by simp; omega) hk (by go_simp) ha hn)
  have ht8 := World.block_lt_of_cell? w _ hc
  have ht : t8 < w.heap.size := ht8
  clear ha h hs ht8
  generalize al.any (fun j => f j.toNat k) = d at *
  go_enter Try.func49, Try.ntmps49
  go_wp2_with fail
  refine hcall.mono ?_
  rintro e w1 ⟨rfl, hb1⟩
  go_wp2_with fail
  go_ret
  exact ⟨rfl, below_then hb hb.size hb1⟩
theorem eg_red1 : ∀ args w, (callFunc 49 args).run Try.prog w = .ok (.enter 49 args) w := enters_of Try.func49 (by kernel_rfl) rfl
end Go.Proofs.Ythigebbihclbiaa

/- A row that grows, kept in a cell of a box. -/
namespace Go.Proofs.Ythigebbihclbiaa
open Go.RowKit

/-- From W0 on: cell o of box T holds a row of the call's own, with xs; the box's cell o' holds u; of what W0 held only box T has turned. -/
structure BoxInv {α : Type} (d : Kd α) (e : TypeId) (W0 wr : World) (T o o' : Nat) (v u : Value) (xs : List α) (F : Nat → Prop) : Prop where
  g : W0.grownBy wr (some T)
  hT : T < W0.heap.size
  c : wr.cell? ⟨T, o, none⟩ = some v
  f : wr.frozen? ⟨T, o, none⟩ = false
  c' : wr.cell? ⟨T, o', none⟩ = some u
  f' : wr.frozen? ⟨T, o', none⟩ = false
  own : d.Own e wr W0.heap.size F v xs
  flo : ∀ b, F b → W0.heap.size ≤ b ∧ b < wr.heap.size
theorem BoxInv.later {α : Type} {d : Kd α} {e : TypeId} {W0 wr wx : World} {T o o' : Nat} {v u : Value} {xs : List α} {F : Nat → Prop} (h : BoxInv d e W0 wr T o o' v u xs F) (hb : Below wr.heap.size wr wx) : BoxInv d e W0 wx T o o' v u xs F := by
  have ht : T < wr.heap.size := Nat.lt_of_lt_of_le h.hT h.g.size
  exact ⟨h.g.trans (Kd.grownBy_of_below hb _), h.hT, (hb.cell (show T < _ from ht)).trans h.c, (hb.frozen (show T < _ from ht)).trans h.f, (hb.cell (show T < _ from ht)).trans h.c', (hb.frozen (show T < _ from ht)).trans h.f', h.own.below hb, fun b hF => ⟨(h.flo b hF).1, Nat.lt_of_lt_of_le (h.flo b hF).2 hb.size⟩⟩
theorem BoxInv.below {α : Type} {d : Kd α} {e : TypeId} {W0 wr : World} {T o o' : Nat} {v u : Value} {xs : List α} {F : Nat → Prop} (h : BoxInv d e W0 wr T o o' v u xs F) : Below T W0 wr :=
  (Below.refl T W0).grown h.g (Nat.le_of_lt h.hT) (fun j hj => by rw [Option.some.inj hj]; exact Nat.le_refl _)
theorem Kd.Own.more {α : Type} {d : Kd α} {e : TypeId} {w : World} {base : Nat} {F F' : Nat → Prop} {v : Value} {xs : List α} (h : d.Own e w base F v xs) (hF : ∀ b, F b → F' b) (hv : ∀ b, F' b → v.ownBlock ≠ some b) : d.Own e w base F' v xs := by
  obtain ⟨cs, h1, h2, _⟩ := h
  exact ⟨cs, h1, h2.mono fun b hb _ => hF b hb, hv⟩
theorem BoxInv.appended {α : Type} {d : Kd α} {e : TypeId} {W0 wr w1 : World} {T o o' : Nat} {v u v1 : Value} {xs xs' : List α} {F F' : Nat → Prop} (h : BoxInv d e W0 wr T o o' v u xs F) (ne : o' ≠ o)
    (ho : d.Own e w1 W0.heap.size F' v1 xs') (hg : wr.grownBy w1 v.ownBlock) (hF' : ∀ b, F' b → W0.heap.size ≤ b ∧ b < wr.heap.size) (h1 : v1.oneCell' = true) :
    BoxInv d e W0 (w1.setCell ⟨T, o, none⟩ v1) T o o' v1 u xs' F' ∧ w1.cell? ⟨T, o, none⟩ = some v ∧ w1.frozen? ⟨T, o, none⟩ = false := by
  have ht : T < wr.heap.size := Nat.lt_of_lt_of_le h.hT h.g.size
  have far : some T ≠ v.ownBlock := fun x => by have := (h.own.lt T x.symm).1; have := h.hT; omega
  have c1 : w1.cell? ⟨T, o, none⟩ = some v := hg.cell h.c far
  have f1 : w1.frozen? ⟨T, o, none⟩ = false := (hg.frozen_far ⟨T, o, none⟩ (by show T < _; exact ht) far).trans h.f
  have gs : w1.grownBy (w1.setCell ⟨T, o, none⟩ v1) (some T) := ⟨rfl, rfl, rfl, by simp [World.setCell], fun k _ hk => Below.heap_setCell _ _ _ _ (fun x => hk (by rw [x]))⟩
  have g1 : W0.grownBy w1 (some T) := by
    refine ⟨hg.os.trans h.g.os, hg.tape.trans h.g.tape, hg.output.trans h.g.output, Nat.le_trans h.g.size hg.size, fun k hk hne => ?_⟩
    rw [hg.block k (Nat.lt_of_lt_of_le hk h.g.size) (fun x => by have := (h.own.lt k x.symm).1; omega)]
    exact h.g.block k hk hne
  refine ⟨⟨g1.trans gs, h.hT, ?_, ?_, ?_, ?_, ho.grown gs ?_ ?_, fun b hF => ⟨(hF' b hF).1, ?_⟩⟩, c1, f1⟩
  · rw [World.cell?_setCell_same w1 _ _ (by rw [c1])]
  · rw [World.frozen?_setCell]; exact f1
  · rw [World.cell?_setCell_other _ _ _ _ (by intro x; injection x with _ x _; exact ne x.symm)]
    exact hg.cell h.c' far
  · rw [World.frozen?_setCell]
    exact (hg.frozen_far ⟨T, o', none⟩ (by show T < _; exact ht) far).trans h.f'
  · cases hv : v1.ownBlock with
    | none => exact .inl rfl
    | some k => exact .inr (fun x => by have := (ho.lt k hv).1; have := Option.some.inj x; have := h.hT; omega)
  · intro b hF x
    have := (hF' b hF).1
    have := Option.some.inj x
    have := h.hT
    omega
  · have := (hF' b hF).2
    have := hg.size
    have : (w1.setCell ⟨T, o, none⟩ v1).heap.size = w1.heap.size := by simp [World.setCell]
    omega

/-- A shop and an error code. -/
def RetS (R : Shop) (c : Int) (w : World) (e : Ending) (w' : World) : Prop := ∃ v, e = .returned (.tuple #[v, .int .i64 c]) ∧ ShopAt w' (fun b => w.heap.size ≤ b) R v ∧ Below w.heap.size w w'
theorem results_ct {P : Program} {fn : Func} {p u : Tmp} {ty : TypeId} (h : fn.results = #[.cell p ty, .tmp u]) (tmps : Array Value) (w : World) (A : Addr) (v : Value) (hp : tmps.getD p undef = .pointer (some A)) (hl : (loadVar ty A).run P w = .ok v w) :
    (results fn tmps).run P w = .ok (.tuple #[v, tmps.getD u undef]) w := by
  have hp' : tmps[p]?.getD undef = .pointer (some A) := by simpa using hp
  simp [results, h, hp', asAddr, hl, Sem.run_bind, Result.andThen]
end Go.Proofs.Ythigebbihclbiaa
