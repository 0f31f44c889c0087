/- graph.Order: the plain side. -/
import Derived.Test.YthigebbihclbiaaGrNext
namespace Go.Proofs.Ythigebbihclbiaa
open Go.RowKit

/-- The edges that lead to j from nodes that are not done. -/
def leftOf (es : List (Int × Int)) (dn : List Bool) (j : Nat) : Nat := es.countP (fun e => decide (e.2 = (j : Int)) && !isDone dn e.1)
def LeftOk (es : List (Int × Int)) (dn : List Bool) (lf : List Int) : Prop := ∀ j (h : j < lf.length), lf[j] = (leftOf es dn j : Int)

theorem nextOf_get : ∀ (es : List (Int × Int)) (m : List (List Int)), (∀ e ∈ es, 0 ≤ e.1) → ∀ k, k < m.length → (es.foldl nextStep m).getD k [] = m.getD k [] ++ (es.filter (fun e => decide (e.1 = (k : Int)))).map (·.2)
  | [], m, _, k, hk => by simp
  | e :: es, m, h, k, hk => by
    have he := h e (List.mem_cons_self ..)
    rw [List.foldl_cons, nextOf_get es _ (fun x hx => h x (List.mem_cons_of_mem _ hx)) k (by simpa [nextStep] using hk)]
    by_cases hek : e.1 = (k : Int)
    · have : e.1.toNat = k := by omega
      rw [List.filter_cons_of_pos (by simpa using hek), nextStep, this]
      simp [hk]
    · have : e.1.toNat ≠ k := by omega
      rw [List.filter_cons_of_neg (by simpa using hek), nextStep]
      simp [List.getElem?_set_ne this]
theorem nextOf_len (n : Nat) (es : List (Int × Int)) : (nextOf n es).length = n := by
  unfold nextOf
  exact fold_keeps nextStep (fun (a : List (List Int)) => a.length = n) (fun a b ha => by rw [nextStep, List.length_set]; exact ha) es _ (by simp)
theorem nextOf_row (n : Nat) (es : List (Int × Int)) (h : ∀ e ∈ es, 0 ≤ e.1) (k : Nat) (hk : k < n) : (nextOf n es)[k]'(by rw [nextOf_len]; exact hk) = (es.filter (fun e => decide (e.1 = (k : Int)))).map (·.2) := by
  have := nextOf_get es (List.replicate n []) h k (by simpa using hk)
  unfold nextOf
  rw [List.getD_eq_getElem?_getD, List.getElem?_eq_getElem (by have := nextOf_len n es; unfold nextOf at this; omega)] at this
  simpa [hk] using this

theorem leftOf_le (es : List (Int × Int)) (dn : List Bool) (j : Nat) : leftOf es dn j ≤ es.length := List.countP_le_length
theorem leftOf_start (es : List (Int × Int)) (n j : Nat) : leftOf es (List.replicate n false) j = es.countP (fun e => decide (e.2 = (j : Int))) := by
  unfold leftOf
  congr 1
  funext e
  have : isDone (List.replicate n false) e.1 = false := by
    unfold isDone
    rw [List.getD_eq_getElem?_getD, List.getElem?_replicate]
    split <;> rfl
  rw [this]; simp
theorem isDone_set (dn : List Bool) (k : Nat) (hk : k < dn.length) (x : Int) (hx : 0 ≤ x) : isDone (dn.set k true) x = (isDone dn x || decide (x = (k : Int))) := by
  obtain ⟨y, rfl⟩ := Int.eq_ofNat_of_zero_le hx
  unfold isDone
  simp only [List.getD_eq_getElem?_getD, List.getElem?_set, Int.toNat_natCast]
  by_cases h : k = y
  · subst h
    simp [hk]
  · have : ¬ ((y : Int) = (k : Int)) := by omega
    rw [if_neg h, decide_eq_false this, Bool.or_false]
theorem leftOf_set (es : List (Int × Int)) (hes : ∀ e ∈ es, 0 ≤ e.1) (dn : List Bool) (k j : Nat) (hk : k < dn.length) (hd : dn.getD k false = false) :
    leftOf es dn j = leftOf es (dn.set k true) j + ((es.filter (fun e => decide (e.1 = (k : Int)))).map (·.2)).count (j : Int) := by
  unfold leftOf
  induction es with
  | nil => simp
  | cons e es ih =>
    have he := hes e (List.mem_cons_self ..)
    have ih := ih (fun x hx => hes x (List.mem_cons_of_mem _ hx))
    rw [List.countP_cons, List.countP_cons, ih, isDone_set dn k hk e.1 he]
    by_cases hek : e.1 = (k : Int)
    · have hdn : isDone dn (k : Int) = false := by unfold isDone; rw [Int.toNat_natCast]; exact hd
      rw [List.filter_cons_of_pos (by simpa using hek), List.map_cons, List.count_cons]
      by_cases h2 : e.2 = (j : Int)
      · simp [hdn, hek, h2]; omega
      · simp [h2]
    · rw [List.filter_cons_of_neg (by simpa using hek)]
      simp [hek]; omega
theorem ready_iff {ts : List Task} {es : List (Int × Int)} (hp : es.Perm (edgesOf ts)) (dn : List Bool) (k : Nat) (hk : k < ts.length) : ready ts dn k = (!(dn.getD k false) && decide (leftOf es dn k = 0)) := by
  unfold ready
  rw [List.getElem?_eq_getElem hk]
  simp only
  congr 1
  rw [Bool.eq_iff_iff, Bool.not_eq_true', decide_eq_true_iff, List.any_eq_false]
  unfold leftOf
  rw [List.countP_eq_zero]
  constructor
  · rintro h ⟨a, b⟩ he hc
    simp only [Bool.and_eq_true, decide_eq_true_eq, Bool.not_eq_true'] at hc
    obtain ⟨rfl, hc⟩ := hc
    have := (edges_iff a (k : Int)).1 (hp.mem_iff.1 he)
    rw [afterOf_lt hk] at this
    have := h a this.2.2
    rw [hc] at this
    exact this rfl
  · intro h x hx hc
    have hm : (x, (k : Int)) ∈ es := hp.mem_iff.2 ((edges_iff x (k : Int)).2 ⟨by omega, by omega, by rw [afterOf_lt hk]; exact hx⟩)
    have := h _ hm
    simp only [decide_true, Bool.true_and] at this
    exact this hc
end Go.Proofs.Ythigebbihclbiaa

/- graph.Order: what holds in its loops. -/
namespace Go.Proofs.Ythigebbihclbiaa
open Go.RowKit
set_option maxRecDepth 100000

structure OrdG (w wr : World) (a b : Value) (gl gd n N : Nat) (lf : List Int) (dn : List Bool) : Prop where
  box : Boxed w wr a b
  left : Kd.int.Own 3 wr (w.heap.size + 1) Kd.NoB (.slice (some ⟨gl, 0, none⟩) n n) lf
  done : Kd.bool.Own 4 wr (w.heap.size + 1) Kd.NoB (.slice (some ⟨gd, 0, none⟩) n n) dn
  ne : gl ≠ gd
  ll : lf.length = n
  dl : dn.length = n
  hl : gl < N
  hd : gd < N
  sz : N ≤ wr.heap.size
theorem OrdG.later {w wr wx : World} {a b : Value} {gl gd n N : Nat} {lf : List Int} {dn : List Bool} (h : OrdG w wr a b gl gd n N lf dn) (hb : Below wr.heap.size wr wx) : OrdG w wx a b gl gd n N lf dn :=
  ⟨h.box.later hb, h.left.below hb, h.done.below hb, h.ne, h.ll, h.dl, h.hl, h.hd, Nat.le_trans h.sz hb.size⟩
theorem OrdG.up {w wr : World} {a b : Value} {gl gd n N N' : Nat} {lf : List Int} {dn : List Bool} (h : OrdG w wr a b gl gd n N lf dn) (h1 : N ≤ N') (h2 : N' ≤ wr.heap.size) : OrdG w wr a b gl gd n N' lf dn :=
  ⟨h.box, h.left, h.done, h.ne, h.ll, h.dl, Nat.lt_of_lt_of_le h.hl h1, Nat.lt_of_lt_of_le h.hd h1, h2⟩
theorem OrdG.grown {w wr wx : World} {a b : Value} {gl gd n N : Nat} {lf : List Int} {dn : List Bool} {row : Option Nat} (h : OrdG w wr a b gl gd n N lf dn) (hg : wr.grownBy wx row) (hr : ∀ k, row = some k → N ≤ k) : OrdG w wx a b gl gd n N lf dn := by
  have hw : w.heap.size < N := Nat.lt_of_le_of_lt (Nat.le_of_lt (h.left.lt gl rfl).1) h.hl
  have far : ∀ k, k < N → some k ≠ row := fun k hk e => by have := hr k e.symm; omega
  have f0 := far _ hw
  refine ⟨⟨hg.cell h.box.c0 f0, hg.cell h.box.c1 f0, h.box.below.grown hg h.box.below.size (fun j hj => by have := hr j hj; omega), Nat.lt_of_lt_of_le h.box.size hg.size⟩,
    h.left.grown hg (.inr (far gl h.hl)) (fun _ hb => hb.elim), h.done.grown hg (.inr (far gd h.hd)) (fun _ hb => hb.elim), h.ne, h.ll, h.dl, h.hl, h.hd, Nat.le_trans h.sz hg.size⟩
theorem OrdG.setLeft {w wr : World} {a b : Value} {gl gd n N : Nat} {lf : List Int} {dn : List Bool} (h : OrdG w wr a b gl gd n N lf dn) (j : Nat) (x : Int) :
    OrdG w (wr.setCell ⟨gl, j, none⟩ (.int .i64 x)) a b gl gd n N (lf.set j x) dn ∧ wr.grownBy (wr.setCell ⟨gl, j, none⟩ (.int .i64 x)) (some gl) := by
  obtain ⟨k1, k2⟩ := Kd.Own.set (enc := Value.int .i64) (P := fun _ => True) (h1 := fun _ => rfl) h.left j x trivial
  have hw := (h.left.lt gl rfl).1
  have f0 : some w.heap.size ≠ some gl := fun e => by have := Option.some.inj e; omega
  refine ⟨⟨⟨k2.cell h.box.c0 f0, k2.cell h.box.c1 f0, h.box.below.setCell (by show w.heap.size ≤ gl; omega) _, by simpa [World.setCell] using h.box.size⟩, k1,
    h.done.grown k2 (.inr (fun e => h.ne (Option.some.inj e).symm)) (fun _ hb => hb.elim), h.ne, by rw [List.length_set]; exact h.ll, h.dl, h.hl, h.hd, by simpa [World.setCell] using h.sz⟩, k2⟩
theorem OrdG.setDone {w wr : World} {a b : Value} {gl gd n N : Nat} {lf : List Int} {dn : List Bool} (h : OrdG w wr a b gl gd n N lf dn) (j : Nat) (x : Bool) :
    OrdG w (wr.setCell ⟨gd, j, none⟩ (.bool x)) a b gl gd n N lf (dn.set j x) ∧ wr.grownBy (wr.setCell ⟨gd, j, none⟩ (.bool x)) (some gd) := by
  obtain ⟨k1, k2⟩ := Kd.Own.set (enc := Value.bool) (P := fun _ => True) (h1 := fun _ => rfl) h.done j x trivial
  have hw := (h.done.lt gd rfl).1
  have f0 : some w.heap.size ≠ some gd := fun e => by have := Option.some.inj e; omega
  refine ⟨⟨⟨k2.cell h.box.c0 f0, k2.cell h.box.c1 f0, h.box.below.setCell (by show w.heap.size ≤ gd; omega) _, by simpa [World.setCell] using h.box.size⟩,
    h.left.grown k2 (.inr (fun e => h.ne (Option.some.inj e))) (fun _ hb => hb.elim), k1, h.ne, h.ll, by rw [List.length_set]; exact h.dl, h.hl, h.hd, by simpa [World.setCell] using h.sz⟩, k2⟩

/-- The rows of next, to be read; they lie from N on, below M. -/
structure NextAt (W : World) (gn n N M : Nat) (nx : List (List Int)) : Prop where
  lo : N ≤ gn ∧ gn < M
  sz : M ≤ W.heap.size
  len : nx.length = n
  row : ∀ k (h : k < nx.length), ∃ A c, W.cell? ⟨gn, k, none⟩ = some (.slice A nx[k].length c) ∧ Kd.int.Row W (fun b => N ≤ b ∧ b < M) A nx[k]
theorem NextAt.keep {W W' : World} {gn n N M : Nat} {nx : List (List Int)} (h : NextAt W gn n N M nx) (ha : Agree (fun b => N ≤ b ∧ b < M) W W') (hz : W.heap.size ≤ W'.heap.size) : NextAt W' gn n N M nx := by
  refine ⟨h.lo, Nat.le_trans h.sz hz, h.len, fun k hk => ?_⟩
  obtain ⟨A, c, h1, h2⟩ := h.row k hk
  exact ⟨A, c, (World.cell?_of_block (ha gn h.lo (Nat.lt_of_lt_of_le h.lo.2 h.sz))).trans h1, h2.keep ha⟩
theorem NextAt.below {W W' : World} {gn n N M : Nat} {nx : List (List Int)} (h : NextAt W gn n N M nx) (hb : Below W.heap.size W W') : NextAt W' gn n N M nx := h.keep (Agree.below hb) hb.size
theorem NextAt.grown {W W' : World} {gn n N M : Nat} {nx : List (List Int)} {row : Option Nat} (h : NextAt W gn n N M nx) (hg : W.grownBy W' row) (hr : ∀ k, row = some k → k < N ∨ M ≤ k) : NextAt W' gn n N M nx :=
  h.keep (Agree.grown hg (fun b hb e => by have := hr b e.symm; omega)) hg.size
theorem NextAt.of {W : World} {base g n N : Nat} {hs : List Hdr} {m : List (List Int)} (h : NMat W base g n hs m) (hN : N ≤ base) : NextAt W g n N W.heap.size m := by
  have hg := h.outer.lt g rfl
  refine ⟨⟨by omega, hg.2⟩, Nat.le_refl _, h.ml, fun k hk => ?_⟩
  have hk' : k < hs.length := by rw [h.hl, ← h.ml]; exact hk
  obtain ⟨c1, _, _⟩ := h.outer.cell k hk'
  have hi := h.inner k _ _ (List.getElem?_eq_getElem hk') (List.getElem?_eq_getElem hk)
  obtain ⟨A, c, he, _, _, hr⟩ := hi.sl
  rw [he] at c1
  refine ⟨A, c, c1, hr.mono (by decide) (fun b hb _ => ?_)⟩
  rcases hb with hb | hb
  · exact hb.elim
  · have := hi.lt b hb
    omega
end Go.Proofs.Ythigebbihclbiaa
