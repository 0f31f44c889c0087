/- Plain facts about the order and the matrix of before: each task is in a whole order, and then each row is made. -/
import Derived.Test.YthigebbihclbiaaBefore
namespace Go.Proofs.Ythigebbihclbiaa
open Go.RowKit

structure OrdInv (ts : List Task) (done : List Bool) (out : List Int) : Prop where
  len : done.length = ts.length
  cnt : left done + out.length = ts.length
  iff : ∀ k, k < ts.length → (done.getD k false = true ↔ (k : Int) ∈ out)
theorem ready_lt {ts : List Task} {done : List Bool} {k : Nat} (h : ready ts done k = true) : k < ts.length ∧ done.getD k false = false := by
  unfold ready at h
  split at h
  · rename_i t ht
    simp only [Bool.and_eq_true, Bool.not_eq_true'] at h
    exact ⟨(List.getElem?_eq_some_iff.1 ht).1, h.1⟩
  · cases h
theorem OrdInv.start (ts : List Task) : OrdInv ts (List.replicate ts.length false) [] := by
  refine ⟨List.length_replicate, by simp [left, List.countP_replicate], fun k hk => ?_⟩
  simp [hk]
theorem OrdInv.step {ts : List Task} {done : List Bool} {out : List Int} (h : OrdInv ts done out) (hn : nextReady ts done ≠ ts.length) :
    OrdInv ts (done.set (nextReady ts done) true) (out ++ [(nextReady ts done : Int)]) := by
  obtain ⟨h1, h2⟩ := ready_lt (next_ready ts done hn)
  generalize nextReady ts done = k at *
  have hk : k < done.length := by rw [h.len]; exact h1
  have h3 := left_set done k hk h2
  refine ⟨by rw [List.length_set]; exact h.len, by have := h.cnt; simp; omega, fun j hj => ?_⟩
  have hj' : j < done.length := by rw [h.len]; exact hj
  have := h.iff j hj
  by_cases e : j = k
  · subst e; simp [hk]
  · have e' : ¬ ((j : Int) = (k : Int)) := by omega
    have e2 : k ≠ j := fun x => e x.symm
    simp only [List.getD_eq_getElem?_getD, List.getElem?_set_ne e2, List.mem_append, List.mem_singleton, e', or_false] at this ⊢
    exact this
theorem OrdInv.all {ts : List Task} {done : List Bool} {out : List Int} (h : OrdInv ts done out) (hl : out.length = ts.length) : ∀ k, k < ts.length → (k : Int) ∈ out := fun k hk => by
  rw [← h.iff k hk]
  have h0 : left done = 0 := by have := h.cnt; omega
  unfold left at h0
  rw [List.countP_eq_zero] at h0
  have hk' : k < done.length := by rw [h.len]; exact hk
  have := h0 done[k] (List.getElem_mem _)
  simpa [hk'] using this
theorem order_all (ts : List Task) : ∀ (f : Nat) (done : List Bool) (out : List Int), OrdInv ts done out → (orderGo ts f done out).length = ts.length → ∀ k, k < ts.length → (k : Int) ∈ orderGo ts f done out
  | 0, _, _, h, hl => h.all hl
  | f + 1, done, out, h, hl => by
    rw [orderGo] at hl ⊢
    split
    · rename_i he
      rw [if_pos he] at hl
      exact h.all hl
    · rename_i he
      rw [if_neg he] at hl
      exact order_all ts f _ _ (h.step he) hl
theorem orderOf_all (ts : List Task) (hl : (orderOf ts).length = ts.length) (k : Nat) (hk : k < ts.length) : (k : Int) ∈ orderOf ts := order_all ts _ _ _ (OrdInv.start ts) hl k hk

theorem rowOf_set (m : List (List Bool)) (i j : Nat) (x : List Bool) : rowOf (m.set i x) j = if i = j ∧ i < m.length then x else rowOf m j := by
  unfold rowOf
  simp only [List.getD_eq_getElem?_getD, List.getElem?_set]
  by_cases h : i = j
  · subst h
    by_cases hi : i < m.length
    · simp [hi]
    · simp [hi]
  · simp [h]
theorem rowOf_set_len (m : List (List Bool)) (i j : Nat) (x : List Bool) (hx : x.length = (rowOf m i).length) : (rowOf (m.set i x) j).length = (rowOf m j).length := by
  rw [rowOf_set]
  split
  · rename_i h; rw [hx, h.1]
  · rfl
theorem fold_keeps {α β : Type} (f : α → β → α) (P : α → Prop) (h : ∀ a b, P a → P (f a b)) : ∀ (l : List β) (a : α), P a → P (l.foldl f a)
  | [], _, ha => ha
  | b :: l, a, ha => fold_keeps f P h l (f a b) (h a b ha)
theorem depStep_len (i : Nat) (m : List (List Bool)) (k : Int) (j : Nat) : (rowOf (depStep i m k) j).length = (rowOf m j).length := by
  unfold depStep
  refine fold_keeps _ (fun (a : List (List Bool)) => (rowOf a j).length = (rowOf m j).length) (fun a b ha => ?_) _ _ (rowOf_set_len _ _ _ _ (by simp))
  rw [orStep, rowOf_set_len _ _ _ _ (by simp)]
  exact ha
theorem depStep_out (i : Nat) (m : List (List Bool)) (k : Int) : (depStep i m k).length = m.length := by
  unfold depStep
  refine fold_keeps _ (fun (a : List (List Bool)) => a.length = m.length) (fun a b ha => ?_) _ _ (by simp)
  rw [orStep, List.length_set]
  exact ha
theorem befStep_out (ts : List Task) (m : List (List Bool)) (i : Int) : (befStep ts m i).length = m.length := by
  unfold befStep
  exact fold_keeps _ (fun (a : List (List Bool)) => a.length = m.length) (fun a b ha => by rw [depStep_out]; exact ha) _ _ (by simp)
theorem befStep_len (ts : List Task) (m : List (List Bool)) (i : Int) (j : Nat) : (rowOf (befStep ts m i) j).length = if i.toNat = j ∧ i.toNat < m.length then ts.length else (rowOf m j).length := by
  unfold befStep
  have h := fold_keeps (depStep i.toNat) (fun (a : List (List Bool)) => (rowOf a j).length = (rowOf (m.set i.toNat (List.replicate ts.length false)) j).length) (fun a b ha => by rw [depStep_len]; exact ha) (afterOf ts i) _ rfl
  rw [h, rowOf_set]
  split
  · simp
  · rfl
theorem bef_fold_len (ts : List Task) (j : Nat) (hj : j < ts.length) : ∀ (l : List Int) (m : List (List Bool)), m.length = ts.length → ((rowOf m j).length = ts.length ∨ (j : Int) ∈ l) → (rowOf (l.foldl (befStep ts) m) j).length = ts.length
  | [], _, _, h => by simpa using h
  | i :: l, m, hm, h => by
    rw [List.foldl_cons]
    refine bef_fold_len ts j hj l _ (by rw [befStep_out]; exact hm) ?_
    rw [befStep_len, hm]
    by_cases hi : i.toNat = j
    · exact .inl (by rw [if_pos ⟨hi, by omega⟩])
    · rw [if_neg (fun h => hi h.1)]
      rcases h with h | h
      · exact .inl h
      · rcases List.mem_cons.1 h with h | h
        · exact absurd (by rw [← h]; simp) hi
        · exact .inr h
/-- In a whole order each row is made. -/
theorem beforeOf_row (ts : List Task) (hl : (orderOf ts).length = ts.length) (j : Nat) (hj : j < ts.length) : (rowOf (beforeOf ts) j).length = ts.length :=
  bef_fold_len ts j hj _ _ (by simp) (.inr (orderOf_all ts hl j hj))
theorem beforeOf_len (ts : List Task) : (beforeOf ts).length = ts.length := by
  unfold beforeOf
  exact fold_keeps _ (fun (a : List (List Bool)) => a.length = ts.length) (fun a b ha => by rw [befStep_out]; exact ha) _ _ (by simp)
end Go.Proofs.Ythigebbihclbiaa
