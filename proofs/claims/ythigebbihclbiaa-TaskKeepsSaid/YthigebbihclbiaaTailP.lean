/- Plain facts about the order, the tails and the longest chain. -/
import Derived.Test.YthigebbihclbiaaGrOrdI
namespace Go.Proofs.Ythigebbihclbiaa

/-- A list in which each task's After lie behind it, and no task twice. -/
def RTopo (ts : List Task) : List Int → Prop
  | [] => True
  | i :: u => (∀ a ∈ afterOf ts i, a ∈ u) ∧ i ∉ u ∧ RTopo ts u
theorem ready_after {ts : List Task} {done : List Bool} {k : Nat} (h : ready ts done k = true) : ∀ x ∈ afterOf ts k, isDone done x = true := by
  have hk := (ready_lt h).1
  unfold ready at h
  rw [List.getElem?_eq_getElem hk] at h
  simp only [Bool.and_eq_true, Bool.not_eq_true'] at h
  intro x hx
  rw [afterOf_lt hk] at hx
  have := List.any_eq_false.1 h.2 x hx
  simpa using this
theorem order_topo (ts : List Task) (hok : AfterOk ts) : ∀ (f : Nat) (done : List Bool) (out : List Int), OrdInv ts done out → RTopo ts out.reverse → RTopo ts (orderGo ts f done out).reverse
  | 0, _, _, _, ht => ht
  | f + 1, done, out, h, ht => by
    rw [orderGo]
    split
    · exact ht
    · rename_i hn
      have hr := next_ready ts done hn
      obtain ⟨hk, hd⟩ := ready_lt hr
      refine order_topo ts hok f _ _ (h.step hn) ?_
      rw [List.reverse_append]
      change RTopo ts ((nextReady ts done : Int) :: out.reverse)
      refine ⟨fun a ha => ?_, fun hm => ?_, ht⟩
      · have h1 := ready_after hr a ha
        rw [afterOf_lt hk] at ha
        obtain ⟨a0, a1⟩ := hok _ (List.getElem_mem hk) a ha
        have h2 := (h.iff a.toNat (by omega)).1 (by unfold isDone at h1; exact h1)
        rw [List.mem_reverse]
        rwa [show ((a.toNat : Nat) : Int) = a by omega] at h2
      · rw [List.mem_reverse] at hm
        have := (h.iff _ hk).2 hm
        rw [hd] at this
        cases this
theorem orderOf_topo (ts : List Task) (hok : AfterOk ts) : RTopo ts (orderOf ts).reverse := order_topo ts hok _ _ _ (OrdInv.start ts) trivial

theorem geti_set (o : List Int) (i : Nat) (k : Int) (x : Int) (hk : 0 ≤ k) (hi : i < o.length) : geti (o.set i x) k = if k = (i : Int) then x else geti o k := by
  obtain ⟨j, rfl⟩ := Int.eq_ofNat_of_zero_le hk
  unfold geti
  simp only [List.getD_eq_getElem?_getD, List.getElem?_set, Int.toNat_natCast]
  by_cases h : i = j
  · subst h; simp [hi]
  · rw [if_neg h, if_neg (by omega)]
theorem relax_fold (i : Int) (hi : 0 ≤ i) : ∀ (l : List Int) (o : List Int), (∀ a ∈ l, 0 ≤ a ∧ a < (o.length : Int)) → i ∉ l → ∀ k, 0 ≤ k → geti (l.foldl (relax i) o) k = if k ∈ l then max (geti o k) (geti o i) else geti o k
  | [], o, _, _, k, _ => by simp
  | a :: l, o, hr, hn, k, hk => by
    obtain ⟨a0, a1⟩ := hr a (List.mem_cons_self ..)
    have hlen : (relax i o a).length = o.length := by simp [relax]
    rw [List.foldl_cons, relax_fold i hi l _ (fun x hx => by rw [hlen]; exact hr x (List.mem_cons_of_mem _ hx)) (fun h => hn (List.mem_cons_of_mem _ h)) k hk]
    have e : ∀ q, 0 ≤ q → geti (relax i o a) q = if q = a then max (geti o a) (geti o i) else geti o q := fun q hq => by
      unfold relax
      rw [geti_set _ _ _ _ hq (by omega), show ((a.toNat : Nat) : Int) = a by omega]
    have hia : i ≠ a := fun h => hn (by rw [h]; exact List.mem_cons_self ..)
    rw [e k hk, e i hi, if_neg hia]
    by_cases hka : k = a
    · subst hka
      simp
    · simp [hka]
/-- What is known of the tails when the tasks of P have been taken. -/
def TInv (ts : List Task) (P : List Int) (o : List Int) : Prop := ∀ k, 0 ≤ k → k < (ts.length : Int) →
  (∀ i ∈ P, k ∈ afterOf ts i → (if k ∈ P then durOf ts k else 0) + geti o i ≤ geti o k) ∧ (if k ∈ P then durOf ts k else 0) ≤ geti o k ∧
  (geti o k = (if k ∈ P then durOf ts k else 0) ∨ ∃ i ∈ P, k ∈ afterOf ts i ∧ geti o k = (if k ∈ P then durOf ts k else 0) + geti o i)
theorem TInv.step {ts : List Task} {P o : List Int} {i : Int} (hT : TInv ts P o) (hok : AfterOk ts) (hlen : o.length = ts.length) (hi0 : 0 ≤ i) (hi1 : i < (ts.length : Int)) (hiP : i ∉ P) (hP : ∀ x ∈ P, 0 ≤ x) (haP : ∀ a ∈ afterOf ts i, a ∉ P ∧ a ≠ i) : TInv ts (i :: P) (tailStep ts o i) := by
  obtain ⟨j, rfl⟩ := Int.eq_ofNat_of_zero_le hi0
  have hj : j < ts.length := by omega
  have hrange : ∀ a ∈ afterOf ts (j : Int), 0 ≤ a ∧ a < (ts.length : Int) := fun a ha => by rw [afterOf_lt hj] at ha; exact hok _ (List.getElem_mem hj) a ha
  have hia : (j : Int) ∉ afterOf ts (j : Int) := fun h => (haP _ h).2 rfl
  have hg : ∀ k, 0 ≤ k → geti (tailStep ts o j) k = if k ∈ afterOf ts (j : Int) then max (geti o k) (geti o j + durOf ts j) else if k = (j : Int) then geti o j + durOf ts j else geti o k := fun k hk => by
    unfold tailStep
    rw [relax_fold _ hi0 _ _ (fun a ha => by simpa [hlen] using hrange a ha) hia k hk, geti_set _ _ _ _ hk (by simp; omega), geti_set _ _ _ _ hi0 (by simp; omega)]
    simp only [Int.toNat_natCast, if_true]
    by_cases hka : k ∈ afterOf ts (j : Int)
    · have : k ≠ (j : Int) := fun h => (haP k hka).2 h
      rw [if_pos hka, if_pos hka, if_neg this]
    · rw [if_neg hka, if_neg hka]
  have hgP : ∀ x ∈ P, geti (tailStep ts o j) x = geti o x := fun x hx => by
    rw [hg x (hP x hx), if_neg (fun h => (haP x h).1 hx), if_neg (fun (h : x = (j : Int)) => hiP (by rw [← h]; exact hx))]
  have hgj : geti (tailStep ts o j) (j : Int) = geti o j + durOf ts j := by rw [hg _ hi0, if_neg hia, if_pos rfl]
  intro k hk0 hk1
  obtain ⟨h1, h2, h3⟩ := hT k hk0 hk1
  by_cases hkj : k = (j : Int)
  · subst hkj
    rw [if_neg hiP] at h1 h2 h3
    rw [if_pos (List.mem_cons_self ..), hgj]
    refine ⟨fun x hx ha => ?_, by omega, ?_⟩
    · rcases List.mem_cons.1 hx with rfl | hx
      · exact absurd ha hia
      · rw [hgP x hx]; have := h1 x hx ha; omega
    · rcases h3 with h3 | ⟨x, hx, ha, h3⟩
      · exact .inl (by omega)
      · exact .inr ⟨x, List.mem_cons_of_mem _ hx, ha, by rw [hgP x hx]; omega⟩
  · have hmem : (k ∈ (j : Int) :: P) = (k ∈ P) := by simp [hkj]
    simp only [hmem]
    by_cases hka : k ∈ afterOf ts (j : Int)
    · have hkP := (haP k hka).1
      rw [if_neg hkP] at h1 h2 h3 ⊢
      have e := hg k hk0
      rw [if_pos hka] at e
      rw [e]
      refine ⟨fun x hx ha => ?_, by omega, ?_⟩
      · rcases List.mem_cons.1 hx with rfl | hx
        · rw [hgj]; omega
        · rw [hgP x hx]; have := h1 x hx ha; omega
      · by_cases hle : geti o k ≤ geti o j + durOf ts j
        · exact .inr ⟨j, List.mem_cons_self .., hka, by rw [hgj]; omega⟩
        · rcases h3 with h3 | ⟨x, hx, ha, h3⟩
          · exact .inl (by omega)
          · exact .inr ⟨x, List.mem_cons_of_mem _ hx, ha, by rw [hgP x hx]; omega⟩
    · have e := hg k hk0
      rw [if_neg hka, if_neg hkj] at e
      rw [e]
      refine ⟨fun x hx ha => ?_, h2, ?_⟩
      · rcases List.mem_cons.1 hx with rfl | hx
        · exact absurd ha hka
        · rw [hgP x hx]; exact h1 x hx ha
      · rcases h3 with h3 | ⟨x, hx, ha, h3⟩
        · exact .inl h3
        · exact .inr ⟨x, List.mem_cons_of_mem _ hx, ha, by rw [hgP x hx]; exact h3⟩
theorem tails_inv {ts : List Task} (hok : AfterOk ts) : ∀ (u P o : List Int), RTopo ts u → (∀ x ∈ u, 0 ≤ x ∧ x < (ts.length : Int)) → (∀ x ∈ P, 0 ≤ x ∧ x ∉ u) → o.length = ts.length → TInv ts P o → ∃ Q, TInv ts Q (u.foldl (tailStep ts) o) ∧ ∀ x, x ∈ Q ↔ x ∈ u ∨ x ∈ P
  | [], P, o, _, _, _, _, hT => ⟨P, hT, fun x => by simp⟩
  | i :: u, P, o, ht, hr, hd, hl, hT => by
    obtain ⟨h1, h2, h3⟩ := ht
    obtain ⟨i0, i1⟩ := hr i (List.mem_cons_self ..)
    have hT2 := hT.step hok hl i0 i1 (fun h => (hd i h).2 (List.mem_cons_self ..)) (fun x hx => (hd x hx).1) (fun a ha => ⟨fun h => (hd a h).2 (List.mem_cons_of_mem _ (h1 a ha)), fun h => h2 (by rw [← h]; exact h1 a ha)⟩)
    obtain ⟨Q, hQ, hm⟩ := tails_inv hok u (i :: P) _ h3 (fun x hx => hr x (List.mem_cons_of_mem _ hx)) (fun x hx => by
      rcases List.mem_cons.1 hx with rfl | hx
      · exact ⟨i0, h2⟩
      · exact ⟨(hd x hx).1, fun h => (hd x hx).2 (List.mem_cons_of_mem _ h)⟩) (by rw [tailStep_len]; exact hl) hT2
    refine ⟨Q, hQ, fun x => ?_⟩
    rw [hm x, List.mem_cons, List.mem_cons]
    constructor
    · rintro (h | h | h)
      · exact .inl (.inr h)
      · exact .inl (.inl h)
      · exact .inr h
    · rintro ((h | h) | h)
      · exact .inr (.inl h)
      · exact .inl h
      · exact .inr (.inr h)
/-- What the tails are. -/
structure TailsAre (ts : List Task) (T : List Int) : Prop where
  ge : ∀ k i : Int, 0 ≤ k → k < (ts.length : Int) → 0 ≤ i → i < (ts.length : Int) → k ∈ afterOf ts i → durOf ts k + geti T i ≤ geti T k
  own : ∀ k : Int, 0 ≤ k → k < (ts.length : Int) → durOf ts k ≤ geti T k
  hit : ∀ k : Int, 0 ≤ k → k < (ts.length : Int) → geti T k = durOf ts k ∨ ∃ i, 0 ≤ i ∧ i < (ts.length : Int) ∧ k ∈ afterOf ts i ∧ geti T k = durOf ts k + geti T i
theorem tailsOf_are (ts : List Task) (hok : AfterOk ts) (hl : (orderOf ts).length = ts.length) : TailsAre ts (tailsOf ts) := by
  obtain ⟨Q, hQ, hm⟩ := tails_inv hok (orderOf ts).reverse [] (List.replicate ts.length 0) (orderOf_topo ts hok) (fun x hx => orderOf_mem ts x (by simpa using hx)) (fun x hx => by cases hx) (by simp) (fun k hk0 hk1 => by
    have : geti (List.replicate ts.length 0) k = 0 := by
      unfold geti
      rw [List.getD_eq_getElem?_getD, List.getElem?_replicate]
      split <;> rfl
    simp [this])
  have hall : ∀ k : Int, 0 ≤ k → k < (ts.length : Int) → k ∈ Q := fun k h0 h1 => by
    rw [hm, List.mem_reverse]
    have := orderOf_all ts hl k.toNat (by omega)
    rw [show ((k.toNat : Nat) : Int) = k by omega] at this
    exact .inl this
  have hin : ∀ x ∈ Q, 0 ≤ x ∧ x < (ts.length : Int) := fun x hx => by
    rcases (hm x).1 hx with h | h
    · exact orderOf_mem ts x (by simpa using h)
    · cases h
  have e : tailsOf ts = (orderOf ts).reverse.foldl (tailStep ts) (List.replicate ts.length 0) := rfl
  rw [e]
  refine ⟨fun k i hk0 hk1 hi0 hi1 ha => ?_, fun k hk0 hk1 => ?_, fun k hk0 hk1 => ?_⟩
  · have := (hQ k hk0 hk1).1 i (hall i hi0 hi1) ha
    rwa [if_pos (hall k hk0 hk1)] at this
  · have := (hQ k hk0 hk1).2.1
    rwa [if_pos (hall k hk0 hk1)] at this
  · have := (hQ k hk0 hk1).2.2
    rw [if_pos (hall k hk0 hk1)] at this
    rcases this with h | ⟨i, hi, ha, h⟩
    · exact .inl h
    · exact .inr ⟨i, (hin i hi).1, (hin i hi).2, ha, h⟩
end Go.Proofs.Ythigebbihclbiaa
