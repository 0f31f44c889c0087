/- Each number of the order is the first that can be next. -/
import Derived.Test.YthigebbihclbiaaBfsP
namespace Go.Proofs.Ythigebbihclbiaa
open Go.RowKit

def okAt (ts : List Task) (l : List Int) (k : Nat) : Bool := !l.contains (k : Int) && (afterOf ts (k : Int)).all (fun j => l.contains j)
theorem okAt_ready {ts : List Task} {done : List Bool} {out : List Int} (h : OrdInv ts done out) (hok : AfterOk ts) {k : Nat} (hk : k < ts.length) : okAt ts out k = ready ts done k := by
  have e1 : ∀ j : Nat, j < ts.length → out.contains (j : Int) = done.getD j false := fun j hj => by
    rw [Bool.eq_iff_iff, List.contains_iff_mem]
    exact (h.iff j hj).symm
  unfold okAt ready
  rw [List.getElem?_eq_getElem hk, e1 k hk, afterOf_lt hk]
  show _ = (!(done.getD k false) && !(ts[k].after.any fun x => !isDone done x))
  congr 1
  rw [Bool.eq_iff_iff, Bool.not_eq_true', List.all_eq_true, List.any_eq_false]
  have e2 : ∀ x ∈ ts[k].after, out.contains x = isDone done x := fun x hx => by
    obtain ⟨x0, x1⟩ := hok _ (List.getElem_mem hk) x hx
    obtain ⟨j, rfl⟩ := Int.eq_ofNat_of_zero_le x0
    rw [e1 j (by omega)]
    rfl
  constructor
  · intro h1 x hx
    rw [← e2 x hx, h1 x hx]; simp
  · intro h1 x hx
    have := h1 x hx
    rw [e2 x hx]
    simpa using this
/-- What stands at m is the first that can be next when all ahead of it are done. -/
def StepAt (ts : List Task) (o : List Int) (m : Nat) : Prop := ∃ x : Nat, x < ts.length ∧ o[m]? = some (x : Int) ∧ okAt ts (o.take m) x = true ∧ ∀ j, j < x → okAt ts (o.take m) j = false
theorem next_first (ts : List Task) (done : List Bool) : ∀ j, j < nextReady ts done → ready ts done j = false := by
  intro j hj
  unfold nextReady at hj
  cases h : (List.range ts.length).find? (ready ts done) with
  | none =>
    rw [h] at hj
    rw [List.find?_range_eq_none] at h
    have := h j hj
    simpa using this
  | some k =>
    rw [h] at hj
    rw [List.find?_range_eq_some] at h
    have := h.2.2 j hj
    simpa using this
theorem order_steps (ts : List Task) (hok : AfterOk ts) : ∀ (f : Nat) (done : List Bool) (out : List Int), OrdInv ts done out → (∀ m, m < out.length → StepAt ts out m) → ∀ m, m < (orderGo ts f done out).length → StepAt ts (orderGo ts f done out) m
  | 0, _, _, _, hs => hs
  | f + 1, done, out, h, hs => by
    rw [orderGo]
    split
    · exact hs
    · rename_i hn
      obtain ⟨hk, hd⟩ := ready_lt (next_ready ts done hn)
      refine order_steps ts hok f _ _ (h.step hn) (fun m hm => ?_)
      rw [List.length_append, List.length_singleton] at hm
      by_cases e : m < out.length
      · obtain ⟨x, x1, x2, x3, x4⟩ := hs m e
        have e2 : (out ++ [(nextReady ts done : Int)]).take m = out.take m := List.take_append_of_le_length (by omega)
        exact ⟨x, x1, by rw [List.getElem?_append_left e]; exact x2, by rw [e2]; exact x3, fun j hj => by rw [e2]; exact x4 j hj⟩
      · have em : m = out.length := by omega
        subst em
        have e2 : (out ++ [(nextReady ts done : Int)]).take out.length = out := by simp
        refine ⟨nextReady ts done, hk, by simp, ?_, fun j hj => ?_⟩
        · rw [e2, okAt_ready h hok hk]; exact next_ready ts done hn
        · rw [e2, okAt_ready h hok (by omega)]; exact next_first ts done j hj
theorem orderOf_steps (ts : List Task) (hok : AfterOk ts) : ∀ m, m < (orderOf ts).length → StepAt ts (orderOf ts) m :=
  order_steps ts hok _ _ _ (OrdInv.start ts) (fun m hm => absurd hm (by simp))
theorem ieq_refl : ∀ xs : List Int, eqBy ieq xs xs = true := fun xs => by
  induction xs with
  | nil => rfl
  | cons x xs ih => simp [eqBy, ieq, ih]
/-- An element of a list of lists, read. -/
theorem ints_at {w : World} {F : Nat → Prop} {A : Option Addr} {xs : List (List Int)} (h : Kd.ints.Row w F A xs) (k : Nat) (hk : k < xs.length) : ∃ b o A' c, A = some ⟨b, o, none⟩ ∧ F b ∧ b < w.heap.size ∧ w.cell? ⟨b, o + k, none⟩ = some (.slice A' xs[k].length c) ∧ Kd.int.Sl w F xs[k] (.slice A' xs[k].length c) := by
  obtain ⟨b, o, cs, hA, hb, hK, hc⟩ := h k hk
  obtain ⟨v, rfl, hv⟩ := hK
  obtain ⟨A', c, rfl, _⟩ := id hv
  have := hc 0 _ rfl
  exact ⟨b, o, A', c, hA, hb, World.block_lt_of_cell? w _ this, by simpa [Kd.ints, Kd.slice] using this, hv⟩
end Go.Proofs.Ythigebbihclbiaa
