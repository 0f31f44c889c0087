/- The longest chain: the function that calls itself in task.Critical. -/
import Derived.Test.YthigebbihclbiaaLibInt2
import Derived.Test.YthigebbihclbiaaTailsPub
namespace Go.Proofs.Ythigebbihclbiaa
open Go.RowKit

def critOk (ts : List Task) (tl : List Int) (last left : Int) (i : Nat) : Bool :=
  decide (0 < left) && (decide (geti tl i = left) && (decide (last < 0) || (afterOf ts i).contains last))
def extendGo (ts : List Task) (tl : List Int) : Nat → Int → Int → List Int → List Int
  | 0, _, _, p => p
  | f + 1, last, left, p => match (List.range ts.length).find? (critOk ts tl last left) with
    | some i => extendGo ts tl f i (left - durOf ts i) (p ++ [(i : Int)])
    | none => p
theorem crit_hit (ts : List Task) (tl : List Int) (last left : Int) (k : Nat) (hk : k < ts.length) (hr : critOk ts tl last left k = true) (hn : ∀ j, j < k → critOk ts tl last left j = false) : (List.range ts.length).find? (critOk ts tl last left) = some k := by
  rw [List.find?_range_eq_some]
  exact ⟨hr, by simpa using hk, fun j hj => by simp [hn j hj]⟩
theorem crit_miss (ts : List Task) (tl : List Int) (last left : Int) (hn : ∀ j, j < ts.length → critOk ts tl last left j = false) : (List.range ts.length).find? (critOk ts tl last left) = none := by
  rw [List.find?_range_eq_none]
  intro j hj
  simp [hn j hj]

/-- The boxes that extend reads and writes. -/
structure CritInv (w wr : World) (Bs Bp Bl Be : Nat) (sv lv pv : Value) (tl path : List Int) : Prop where
  below : Below w.heap.size w wr
  lo : w.heap.size ≤ Bs
  o1 : Bs < Bp
  o2 : Bp < Bl
  o3 : Bl < Be
  hi : Be < wr.heap.size
  cs : wr.cell? ⟨Bs, 0, none⟩ = some sv
  cl : wr.cell? ⟨Bl, 0, none⟩ = some lv
  cp : wr.cell? ⟨Bp, 0, none⟩ = some pv
  fp : wr.frozen? ⟨Bp, 0, none⟩ = false
  ce : wr.cell? ⟨Be, 0, none⟩ = some (.func (.func 44) #[] #[.pointer (some ⟨Bs, 0, none⟩), .pointer (some ⟨Bl, 0, none⟩), .pointer (some ⟨Bp, 0, none⟩), .pointer (some ⟨Be, 0, none⟩)])
  row : Kd.int.Own 3 wr w.heap.size Kd.NoB lv tl
  path : Kd.int.Own 3 wr w.heap.size Kd.NoB pv path
  rlo : ∀ k, lv.ownBlock = some k → k < Bl ∧ k ≠ Bp
  plo : ∀ k, pv.ownBlock = some k → Be < k
theorem CritInv.later {w wr wx : World} {Bs Bp Bl Be : Nat} {sv lv pv : Value} {tl path : List Int} (h : CritInv w wr Bs Bp Bl Be sv lv pv tl path) (hb : Below wr.heap.size wr wx) : CritInv w wx Bs Bp Bl Be sv lv pv tl path := by
  have h1 := h.o1; have h2 := h.o2; have h3 := h.o3; have h4 := h.hi
  exact ⟨below_then h.below h.below.size hb, h.lo, h1, h2, h3, Nat.lt_of_lt_of_le h4 hb.size, (hb.cell (show Bs < _ by omega)).trans h.cs, (hb.cell (show Bl < _ by omega)).trans h.cl, (hb.cell (show Bp < _ by omega)).trans h.cp,
    (hb.frozen (show Bp < _ by omega)).trans h.fp, (hb.cell (show Be < _ by omega)).trans h.ce, h.row.below hb, h.path.below hb, h.rlo, h.plo⟩
theorem CritInv.appended {w wr w1 : World} {Bs Bp Bl Be : Nat} {sv lv pv v1 : Value} {tl path path' : List Int} (h : CritInv w wr Bs Bp Bl Be sv lv pv tl path)
    (ho : Kd.int.Own 3 w1 w.heap.size Kd.NoB v1 path') (hg : wr.grownBy w1 pv.ownBlock) (hat : v1.ownBlock = pv.ownBlock ∨ ∃ b, v1.ownBlock = some b ∧ wr.heap.size ≤ b) (h1 : v1.oneCell' = true) :
    CritInv w (w1.setCell ⟨Bp, 0, none⟩ v1) Bs Bp Bl Be sv lv v1 tl path' ∧ w1.cell? ⟨Bp, 0, none⟩ = some pv ∧ w1.frozen? ⟨Bp, 0, none⟩ = false ∧ w1.cell? ⟨Be, 0, none⟩ = some (.func (.func 44) #[] #[.pointer (some ⟨Bs, 0, none⟩), .pointer (some ⟨Bl, 0, none⟩), .pointer (some ⟨Bp, 0, none⟩), .pointer (some ⟨Be, 0, none⟩)]) := by
  have q1 := h.o1; have q2 := h.o2; have q3 := h.o3; have q4 := h.hi; have q0 := h.lo
  have far : ∀ b, b ≤ Be → some b ≠ pv.ownBlock := fun b hb e => by have := h.plo b e.symm; omega
  have hz := hg.size
  have new : ∀ k, v1.ownBlock = some k → Be < k := fun k hk => by
    rcases hat with e | ⟨b, e, hb⟩
    · exact h.plo k (e ▸ hk)
    · rw [e] at hk
      have := Option.some.inj hk
      omega
  have c1 : w1.cell? ⟨Bp, 0, none⟩ = some pv := hg.cell h.cp (far Bp (by omega))
  have f1 : w1.frozen? ⟨Bp, 0, none⟩ = false := (hg.frozen_far ⟨Bp, 0, none⟩ (by show Bp < _; omega) (far Bp (by omega))).trans h.fp
  have oth : ∀ (b : Nat) (x : Value), b ≤ Be → b ≠ Bp → wr.cell? ⟨b, 0, none⟩ = some x → (w1.setCell ⟨Bp, 0, none⟩ v1).cell? ⟨b, 0, none⟩ = some x := fun b x hb hne hc => by
    rw [World.cell?_setCell_other _ _ _ _ (by intro e; injection e with e; exact hne e.symm)]
    exact hg.cell hc (far b hb)
  have gs : w1.grownBy (w1.setCell ⟨Bp, 0, none⟩ v1) (some Bp) := ⟨rfl, rfl, rfl, by simp [World.setCell], fun k _ hk => Below.heap_setCell _ _ _ _ (fun e => hk (by rw [e]))⟩
  refine ⟨⟨(h.below.grown hg h.below.size (fun k hk => by have := h.plo k hk; omega)).setCell (by show _ ≤ Bp; omega) _, q0, q1, q2, q3, by simp [World.setCell]; omega, oth Bs _ (by omega) (by omega) h.cs, oth Bl _ (by omega) (by omega) h.cl, ?_, ?_, oth Be _ (by omega) (by omega) h.ce,
    (h.row.grown hg ?_ (fun _ hb => hb.elim)).grown gs ?_ (fun _ hb => hb.elim), ho.grown gs ?_ (fun _ hb => hb.elim), h.rlo, new⟩, c1, f1, hg.cell h.ce (far Be (by omega))⟩
  · rw [World.cell?_setCell_same w1 _ _ (by rw [c1])]
  · rw [World.frozen?_setCell]; exact f1
  · cases e : lv.ownBlock with
    | none => exact .inl rfl
    | some k => exact .inr (far k (by have := (h.rlo k e).1; omega))
  · cases e : lv.ownBlock with
    | none => exact .inl rfl
    | some k => exact .inr (fun e2 => (h.rlo k e).2 (Option.some.inj e2))
  · cases e : v1.ownBlock with
    | none => exact .inl rfl
    | some k => exact .inr (fun e2 => by have := new k e; have := Option.some.inj e2; omega)
end Go.Proofs.Ythigebbihclbiaa
