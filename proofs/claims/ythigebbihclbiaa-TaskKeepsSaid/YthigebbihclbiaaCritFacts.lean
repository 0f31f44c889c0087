/- What the longest chain is. -/
import Derived.Test.YthigebbihclbiaaTailP
namespace Go.Proofs.Ythigebbihclbiaa

def ChainOk (ts : List Task) : Int → List Int → Prop
  | _, [] => True
  | last, i :: q => (0 ≤ i ∧ i < (ts.length : Int)) ∧ (last < 0 ∨ last ∈ afterOf ts i) ∧ ChainOk ts i q
def sumDur (ts : List Task) : List Int → Int
  | [] => 0
  | i :: q => durOf ts i + sumDur ts q
theorem extend_chain {ts : List Task} {T : List Int} (hT : TailsAre ts T) (hd : ∀ i : Int, 0 ≤ i → i < (ts.length : Int) → 1 ≤ durOf ts i) : ∀ (f : Nat) (last left : Int) (path : List Int), 0 ≤ left → left ≤ f →
    (left = 0 ∨ ∃ i : Int, 0 ≤ i ∧ i < (ts.length : Int) ∧ geti T i = left ∧ (last < 0 ∨ last ∈ afterOf ts i)) → ∃ q, extendGo ts T f last left path = path ++ q ∧ sumDur ts q = left ∧ ChainOk ts last q
  | 0, last, left, path, h0, h1, _ => ⟨[], by simp [extendGo], by show (0 : Int) = left; omega, trivial⟩
  | f + 1, last, left, path, h0, h1, hx => by
    rw [extendGo]
    cases hf : (List.range ts.length).find? (critOk ts T last left) with
    | none =>
      rcases hx with rfl | ⟨i, i0, i1, hi, hc⟩
      · exact ⟨[], by simp, rfl, trivial⟩
      · by_cases hl : left = 0
        · exact ⟨[], by simp, hl.symm, trivial⟩
        · exfalso
          rw [List.find?_range_eq_none] at hf
          have := hf i.toNat (by omega)
          unfold critOk at this
          rw [show ((i.toNat : Nat) : Int) = i by omega, decide_eq_true (show 0 < left by omega), decide_eq_true hi] at this
          rcases hc with hc | hc
          · simp [hc] at this
          · simp [hc] at this
    | some i =>
      rw [List.find?_range_eq_some] at hf
      obtain ⟨hc, hi, _⟩ := hf
      have hi' : i < ts.length := by simpa using hi
      unfold critOk at hc
      simp only [Bool.and_eq_true, Bool.or_eq_true, decide_eq_true_eq, List.contains_iff_mem] at hc
      obtain ⟨c1, c2, c3⟩ := hc
      have hdi := hd i (by omega) (by omega)
      have hown := hT.own i (by omega) (by omega)
      obtain ⟨q, e1, e2, e3⟩ := extend_chain hT hd f i (left - durOf ts i) (path ++ [(i : Int)]) (by omega) (by omega) (by
        rcases hT.hit i (by omega) (by omega) with h | ⟨j, j0, j1, ja, h⟩
        · exact .inl (by omega)
        · exact .inr ⟨j, j0, j1, by omega, .inr ja⟩)
      refine ⟨(i : Int) :: q, ?_, ?_, ⟨by omega, by omega⟩, c3, e3⟩
      · show extendGo ts T f i (left - durOf ts i) (path ++ [(i : Int)]) = _
        rw [e1]; simp
      · show durOf ts i + sumDur ts q = left
        omega
theorem foldl_max (xs : List Int) : ∀ m : Int, (m ≤ xs.foldl max m ∧ ∀ x ∈ xs, x ≤ xs.foldl max m) ∧ (xs.foldl max m = m ∨ xs.foldl max m ∈ xs) := by
  induction xs with
  | nil => intro m; simp
  | cons x xs ih =>
    intro m
    obtain ⟨⟨h1, h2⟩, h3⟩ := ih (max m x)
    rw [List.foldl_cons]
    refine ⟨⟨by omega, fun y hy => ?_⟩, ?_⟩
    · rcases List.mem_cons.1 hy with rfl | hy
      · omega
      · exact h2 y hy
    · rcases h3 with h3 | h3
      · rw [h3]
        by_cases h : m ≤ x
        · right; rw [Int.max_eq_right h]; exact List.mem_cons_self ..
        · left; omega
      · exact .inr (List.mem_cons_of_mem _ h3)
theorem maxOf_facts {xs : List Int} (hn : xs ≠ []) : (∀ x ∈ xs, x ≤ maxOf xs) ∧ maxOf xs ∈ xs := by
  cases xs with
  | nil => exact absurd rfl hn
  | cons x xs =>
    obtain ⟨⟨h1, h2⟩, h3⟩ := foldl_max xs x
    show (∀ y ∈ x :: xs, y ≤ xs.foldl max x) ∧ xs.foldl max x ∈ x :: xs
    refine ⟨fun y hy => ?_, ?_⟩
    · rcases List.mem_cons.1 hy with rfl | hy
      · exact h1
      · exact h2 y hy
    · rcases h3 with h3 | h3
      · rw [h3]; exact List.mem_cons_self ..
      · exact List.mem_cons_of_mem _ h3

/-- What holds of the results of Tails and Critical for a valid shop. -/
structure CritFacts (s : Shop) (T : List Int) : Prop where
  ok : AfterOk s.tasks
  up : AfterUp s.tasks
  len : T.length = s.tasks.length
  dur : ∀ t ∈ s.tasks, 1 ≤ t.dur ∧ t.dur ≤ 1048576
  are : TailsAre s.tasks T
  path : ChainOk s.tasks (-1) (critPath s)
  sum : sumDur s.tasks (critPath s) = critLen s
  most : T.foldl max 0 = critLen s
  bd : 0 ≤ critLen s ∧ critLen s ≤ 25165824
theorem durOf_lt {ts : List Task} {i : Nat} (hi : i < ts.length) : durOf ts i = ts[i].dur := by simp [durOf, hi]
theorem crit_facts (s : Shop) (hc : checkOf s = 0) : CritFacts s (tailsPub s) := by
  obtain ⟨l1, l2, Z, hnl, _⟩ := zero_of_check s hc
  have hok := afterOk_of _ Z
  have hlen : (orderOf s.tasks).length = s.tasks.length := by have := orderOf_len s.tasks; omega
  have hd := durs_of _ Z
  have hT := tailsOf_are s.tasks hok hlen
  have hTl := tailsOf_len s.tasks hd
  have e0 : tailsPub s = tailsOf s.tasks := if_pos hc
  have hdi : ∀ i : Int, 0 ≤ i → i < (s.tasks.length : Int) → 1 ≤ durOf s.tasks i := fun i i0 i1 => by
    obtain ⟨j, rfl⟩ := Int.eq_ofNat_of_zero_le i0
    rw [durOf_lt (show j < s.tasks.length by omega)]
    exact (hd _ (List.getElem_mem _)).1
  rw [e0]
  by_cases hn : s.tasks.length = 0
  · have e1 : critLen s = 0 := if_neg (fun h => h.2 hn)
    have e2 : critPath s = [] := if_neg (fun h => h.2 hn)
    have e3 : tailsOf s.tasks = [] := List.length_eq_zero_iff.1 (by rw [hTl, hn])
    exact ⟨hok, afterUp_of _ Z, hTl, hd, hT, by rw [e2]; trivial, by rw [e1, e2]; rfl, by rw [e1, e3]; rfl, by rw [e1]; omega⟩
  · have e1 : critLen s = maxOf (tailsOf s.tasks) := if_pos ⟨hc, hn⟩
    have e2 : critPath s = extendGo s.tasks (tailsOf s.tasks) 100000000 (-1) (maxOf (tailsOf s.tasks)) [] := if_pos ⟨hc, hn⟩
    have hne : tailsOf s.tasks ≠ [] := fun h => by rw [h] at hTl; exact hn hTl.symm
    obtain ⟨m1, m2⟩ := maxOf_facts hne
    have hM := maxOf_bd _ (tailsOf_bd s.tasks hd)
    have hbd : 0 ≤ maxOf (tailsOf s.tasks) ∧ maxOf (tailsOf s.tasks) ≤ 25165824 := by
      have := hM
      omega
    obtain ⟨i, hi, hv⟩ := List.getElem_of_mem m2
    obtain ⟨q, q1, q2, q3⟩ := extend_chain hT hdi 100000000 (-1) (maxOf (tailsOf s.tasks)) [] hbd.1 (by omega) (.inr ⟨i, by omega, by omega, by rw [← hv]; simp [geti, hi], .inl (by omega)⟩)
    rw [List.nil_append] at q1
    refine ⟨hok, afterUp_of _ Z, hTl, hd, hT, by rw [e2, q1]; exact q3, by rw [e1, e2, q1]; exact q2, ?_, by rw [e1]; exact hbd⟩
    rw [e1]
    obtain ⟨⟨f1, f2⟩, f3⟩ := foldl_max (tailsOf s.tasks) 0
    have g1 := f2 _ m2
    rcases f3 with f3 | f3
    · omega
    · have := m1 _ f3; omega
end Go.Proofs.Ythigebbihclbiaa
