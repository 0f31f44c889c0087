/- What before's matrix says: the recursion along After, and what it is the least of. -/
import Derived.Test.YthigebbihclbiaaTailP
import Derived.Test.YthigebbihclbiaaRedInv
namespace Go.Proofs.Ythigebbihclbiaa

def gt (m : List (List Bool)) (i x : Nat) : Bool := (rowOf m i).getD x false
theorem gt_set (m : List (List Bool)) (i j x : Nat) (row : List Bool) (hi : i < m.length) : gt (m.set i row) j x = if i = j then row.getD x false else gt m j x := by
  unfold gt
  rw [rowOf_set]
  by_cases h : i = j
  · rw [if_pos ⟨h, hi⟩, if_pos h]
  · rw [if_neg (fun q => h q.1), if_neg h]
theorem getD_set (l : List Bool) (k x : Nat) (b : Bool) (hk : k < l.length) : (l.set k b).getD x false = if x = k then b else l.getD x false := by
  simp only [List.getD_eq_getElem?_getD, List.getElem?_set]
  by_cases h : k = x
  · subst h; simp [hk]
  · have : ¬ x = k := fun e => h e.symm
    simp [h, this]
theorem orFold {i k n : Nat} (hik : i ≠ k) : ∀ (js : List Nat) (m : List (List Bool)), i < m.length → (rowOf m i).length = n → (∀ j ∈ js, j < n) →
    (∀ x, gt (js.foldl (orStep i k) m) i x = (gt m i x || (decide (x ∈ js) && gt m k x))) ∧ ∀ q x, q ≠ i → gt (js.foldl (orStep i k) m) q x = gt m q x
  | [], m, _, _, _ => ⟨fun x => by simp, fun q x _ => rfl⟩
  | j :: js, m, hi, hl, hj => by
    have hjn := hj j (List.mem_cons_self ..)
    have e1 : ∀ x, gt (orStep i k m j) i x = if x = j then (gt m i j || gt m k j) else gt m i x := fun x => by
      unfold orStep
      rw [gt_set _ _ _ _ _ hi, if_pos rfl, getD_set _ _ _ _ (by omega)]
      rfl
    have e2 : ∀ q x, q ≠ i → gt (orStep i k m j) q x = gt m q x := fun q x hq => by
      unfold orStep
      rw [gt_set _ _ _ _ _ hi, if_neg (fun e => hq e.symm)]
    obtain ⟨h1, h2⟩ := orFold hik js (orStep i k m j) (by simpa [orStep] using hi) (by unfold orStep; rw [rowOf_set_len _ _ _ _ (by simp)]; exact hl) (fun x hx => hj x (List.mem_cons_of_mem _ hx))
    refine ⟨fun x => ?_, fun q x hq => ?_⟩
    · rw [List.foldl_cons, h1 x, e1 x, e2 k x (fun e => hik e.symm)]
      by_cases hx : x = j
      · subst hx
        simp
        cases gt m i x <;> cases gt m k x <;> simp
      · simp [hx]
    · rw [List.foldl_cons, h2 q x hq, e2 q x hq]
theorem depStep_gt {i n : Nat} (m : List (List Bool)) (k : Nat) (hik : i ≠ k) (hk : k < n) (hi : i < m.length) (hl : (rowOf m i).length = n) (hlk : (rowOf m k).length ≤ n) :
    (∀ x, gt (depStep i m (k : Int)) i x = (gt m i x || (decide (x = k) || gt m k x))) ∧ ∀ q x, q ≠ i → gt (depStep i m (k : Int)) q x = gt m q x := by
  have hm1 : ∀ q, q ≠ i → rowOf (m.set i ((rowOf m i).set k true)) q = rowOf m q := fun q hq => by rw [rowOf_set, if_neg (fun e => hq e.1.symm)]
  have g1 : ∀ x, gt (m.set i ((rowOf m i).set k true)) i x = if x = k then true else gt m i x := fun x => by
    rw [gt_set _ _ _ _ _ hi, if_pos rfl, getD_set _ _ _ _ (by omega)]
    rfl
  have g2 : ∀ q x, q ≠ i → gt (m.set i ((rowOf m i).set k true)) q x = gt m q x := fun q x hq => by unfold gt; rw [hm1 q hq]
  unfold depStep
  rw [Int.toNat_natCast, hm1 k (fun e => hik e.symm)]
  obtain ⟨h1, h2⟩ := orFold (n := n) hik (List.range (rowOf m k).length) (m.set i ((rowOf m i).set k true)) (by simpa using hi) (by rw [rowOf_set_len _ _ _ _ (by simp)]; exact hl) (fun j hj => by have := List.mem_range.1 hj; omega)
  refine ⟨fun x => ?_, fun q x hq => ?_⟩
  · rw [h1 x, g1 x, g2 k x (fun e => hik e.symm)]
    by_cases hx : x = k
    · subst hx; simp
    · rw [if_neg hx, decide_eq_false hx, Bool.false_or]
      by_cases hlt : x < (rowOf m k).length
      · rw [decide_eq_true (List.mem_range.2 hlt), Bool.true_and]
      · have : gt m k x = false := by unfold gt; rw [List.getD_eq_getElem?_getD, List.getElem?_eq_none (by omega)]; rfl
        rw [this, Bool.and_false]
  · rw [h2 q x hq, g2 q x hq]
theorem depFold {i n : Nat} : ∀ (al : List Int) (m : List (List Bool)), i < m.length → (rowOf m i).length = n → (∀ q, (rowOf m q).length ≤ n) → (∀ a ∈ al, 0 ≤ a ∧ a < (n : Int)) → (i : Int) ∉ al →
    (∀ x, gt (al.foldl (depStep i) m) i x = (gt m i x || al.any (fun k => decide (x = k.toNat) || gt m k.toNat x))) ∧ ∀ q x, q ≠ i → gt (al.foldl (depStep i) m) q x = gt m q x
  | [], m, _, _, _, _, _ => ⟨fun x => by simp, fun q x _ => rfl⟩
  | a :: al, m, hi, hl, hr, ha, hn => by
    obtain ⟨a0, a1⟩ := ha a (List.mem_cons_self ..)
    obtain ⟨k, rfl⟩ := Int.eq_ofNat_of_zero_le a0
    have hik : i ≠ k := fun e => hn (by rw [e]; exact List.mem_cons_self ..)
    obtain ⟨d1, d2⟩ := depStep_gt m k hik (by omega) hi hl (hr k)
    obtain ⟨h1, h2⟩ := depFold al (depStep i m (k : Int)) (by rw [depStep_out]; exact hi) (by rw [depStep_len]; exact hl) (fun q => by rw [depStep_len]; exact hr q) (fun x hx => ha x (List.mem_cons_of_mem _ hx)) (fun h => hn (List.mem_cons_of_mem _ h))
    refine ⟨fun x => ?_, fun q x hq => by rw [List.foldl_cons, h2 q x hq, d2 q x hq]⟩
    rw [List.foldl_cons, h1 x, d1 x, List.any_cons, Int.toNat_natCast, Bool.or_assoc]
    congr 2
    rw [Bool.eq_iff_iff, List.any_eq_true, List.any_eq_true]
    constructor
    · rintro ⟨y, hy, h⟩
      refine ⟨y, hy, ?_⟩
      have hyi : y.toNat ≠ i := fun e => hn (by
        have := (ha y (List.mem_cons_of_mem _ hy)).1
        rw [show (i : Int) = y by omega]; exact List.mem_cons_of_mem _ hy)
      rw [d2 _ _ hyi] at h
      exact h
    · rintro ⟨y, hy, h⟩
      refine ⟨y, hy, ?_⟩
      have hyi : y.toNat ≠ i := fun e => hn (by
        have := (ha y (List.mem_cons_of_mem _ hy)).1
        rw [show (i : Int) = y by omega]; exact List.mem_cons_of_mem _ hy)
      rw [d2 _ _ hyi]
      exact h

/-- What is known of the matrix when the tasks of P have been taken. -/
structure BInv (ts : List Task) (P : List Int) (m : List (List Bool)) : Prop where
  len : m.length = ts.length
  row : ∀ q, (rowOf m q).length ≤ ts.length
  rule : ∀ i : Nat, (i : Int) ∈ P → ∀ x, gt m i x = (afterOf ts i).any (fun k => decide (x = k.toNat) || gt m k.toNat x)
theorem BInv.step {ts : List Task} {P : List Int} {m : List (List Bool)} {i : Nat} (h : BInv ts P m) (hok : AfterOk ts) (hi : i < ts.length) (hiP : (i : Int) ∉ P) (hi2 : (i : Int) ∉ afterOf ts i) (hP : ∀ p : Nat, (p : Int) ∈ P → (i : Int) ∉ afterOf ts p) : BInv ts ((i : Int) :: P) (befStep ts m (i : Int)) := by
  have hrange : ∀ a ∈ afterOf ts (i : Int), 0 ≤ a ∧ a < (ts.length : Int) := fun a ha => by rw [afterOf_lt hi] at ha; exact hok _ (List.getElem_mem hi) a ha
  have hil : i < m.length := by rw [h.len]; exact hi
  have r0 : rowOf (m.set i (List.replicate ts.length false)) i = List.replicate ts.length false := by rw [rowOf_set, if_pos ⟨rfl, hil⟩]
  have rq : ∀ q, q ≠ i → rowOf (m.set i (List.replicate ts.length false)) q = rowOf m q := fun q hq => by rw [rowOf_set, if_neg (fun e => hq e.1.symm)]
  obtain ⟨h1, h2⟩ := depFold (i := i) (n := ts.length) (afterOf ts (i : Int)) (m.set i (List.replicate ts.length false)) (by simpa using hil) (by rw [r0]; simp) (fun q => by
    by_cases hq : q = i
    · rw [hq, r0]; simp
    · rw [rq q hq]; exact h.row q) hrange hi2
  have e : befStep ts m (i : Int) = (afterOf ts (i : Int)).foldl (depStep i) (m.set i (List.replicate ts.length false)) := by unfold befStep; rw [Int.toNat_natCast]
  have g0 : ∀ x, gt (m.set i (List.replicate ts.length false)) i x = false := fun x => by
    unfold gt
    rw [r0, List.getD_eq_getElem?_getD, List.getElem?_replicate]
    split <;> rfl
  have gq : ∀ q x, q ≠ i → gt (m.set i (List.replicate ts.length false)) q x = gt m q x := fun q x hq => by unfold gt; rw [rq q hq]
  have fin : ∀ q x, q ≠ i → gt (befStep ts m (i : Int)) q x = gt m q x := fun q x hq => by rw [e, h2 q x hq, gq q x hq]
  have nat : ∀ a ∈ afterOf ts (i : Int), a.toNat ≠ i := fun a ha e => hi2 (by
    have h0 := (hrange a ha).1
    have e2 : a = (i : Int) := by omega
    subst e2
    exact ha)
  refine ⟨by rw [befStep_out]; exact h.len, fun q => ?_, fun p hp x => ?_⟩
  · rw [befStep_len]
    split
    · exact Nat.le_refl _
    · exact h.row q
  · have any_congr : ∀ (al : List Int), (∀ a ∈ al, a.toNat ≠ i) → al.any (fun k => decide (x = k.toNat) || gt (befStep ts m (i : Int)) k.toNat x) = al.any (fun k => decide (x = k.toNat) || gt m k.toNat x) := fun al hal => by
      induction al with
      | nil => rfl
      | cons a al ih => rw [List.any_cons, List.any_cons, fin _ _ (hal a (List.mem_cons_self ..)), ih (fun y hy => hal y (List.mem_cons_of_mem _ hy))]
    by_cases hpi : p = i
    · subst hpi
      rw [any_congr _ nat, e, h1 x, g0, Bool.false_or]
      have : ∀ (al : List Int), (∀ a ∈ al, a.toNat ≠ p) → al.any (fun k => decide (x = k.toNat) || gt (m.set p (List.replicate ts.length false)) k.toNat x) = al.any (fun k => decide (x = k.toNat) || gt m k.toNat x) := fun al hal => by
        induction al with
        | nil => rfl
        | cons a al ih => rw [List.any_cons, List.any_cons, gq _ _ (hal a (List.mem_cons_self ..)), ih (fun y hy => hal y (List.mem_cons_of_mem _ hy))]
      exact this _ nat
    · have hpP : (p : Int) ∈ P := by
        rcases List.mem_cons.1 hp with h3 | h3
        · exact absurd (by omega) hpi
        · exact h3
      rw [fin p x hpi, h.rule p hpP x, any_congr]
      intro a ha e2
      have hpn : p < ts.length := by
        by_cases hp2 : p < ts.length
        · exact hp2
        · have : afterOf ts (p : Int) = [] := by simp [afterOf, show ts.length ≤ p by omega]
          rw [this] at ha
          cases ha
      rw [afterOf_lt hpn] at ha
      have := (hok _ (List.getElem_mem hpn) a ha).1
      exact hP p hpP (by rw [afterOf_lt hpn, show (i : Int) = a by omega]; exact ha)
theorem RTopo.drop {ts : List Task} : ∀ (a : List Int) {b : List Int}, RTopo ts (a ++ b) → RTopo ts b
  | [], _, h => h
  | _ :: a, _, h => RTopo.drop a h.2.2
theorem RTopo.sub {ts : List Task} : ∀ {u : List Int}, RTopo ts u → ∀ p ∈ u, ∀ a ∈ afterOf ts p, a ∈ u
  | i :: u, h, p, hp, a, ha => by
    rcases List.mem_cons.1 hp with rfl | hp
    · exact List.mem_cons_of_mem _ (h.1 a ha)
    · exact List.mem_cons_of_mem _ (RTopo.sub h.2.2 p hp a ha)
theorem bef_fold {ts : List Task} (hok : AfterOk ts) : ∀ (l P : List Int) (m : List (List Bool)), RTopo ts (l.reverse ++ P) → (∀ x ∈ l, 0 ≤ x ∧ x < (ts.length : Int)) → BInv ts P m → BInv ts (l.reverse ++ P) (l.foldl (befStep ts) m)
  | [], _, _, _, _, h => h
  | i :: l, P, m, ht, hr, h => by
    have e : (i :: l).reverse ++ P = l.reverse ++ (i :: P) := by simp
    rw [e] at ht ⊢
    obtain ⟨h1, h2, h3⟩ := RTopo.drop _ ht
    obtain ⟨i0, i1⟩ := hr i (List.mem_cons_self ..)
    obtain ⟨j, rfl⟩ := Int.eq_ofNat_of_zero_le i0
    exact bef_fold hok l _ _ ht (fun x hx => hr x (List.mem_cons_of_mem _ hx)) (h.step hok (by omega) h2 (fun ha => h2 (h1 _ ha)) (fun p hp ha => h2 (h3.sub _ hp _ ha)))
/-- The row of a task, by the rows of its After. -/
theorem befAt_rule {ts : List Task} (hok : AfterOk ts) (hl : (orderOf ts).length = ts.length) {i : Nat} (hi : i < ts.length) (x : Nat) : befAt ts i x = (afterOf ts i).any (fun k => decide (x = k.toNat) || befAt ts k.toNat x) := by
  have ht := orderOf_topo ts hok
  have h0 : BInv ts [] (List.replicate ts.length []) := ⟨by simp, fun q => by unfold rowOf; rw [List.getD_eq_getElem?_getD, List.getElem?_replicate]; split <;> simp, fun i hi => by cases hi⟩
  have h := bef_fold hok (orderOf ts) [] _ (by rw [List.append_nil]; exact ht) (orderOf_mem ts) h0
  have hm := orderOf_all ts hl i hi
  exact h.rule i (by simpa using hm) x
theorem topo_ind {ts : List Task} (hok : AfterOk ts) (hl : (orderOf ts).length = ts.length) (P : Nat → Prop) (h : ∀ i, i < ts.length → (∀ a ∈ afterOf ts (i : Int), P a.toNat) → P i) : ∀ i, i < ts.length → P i := by
  have go : ∀ u : List Int, RTopo ts u → (∀ x ∈ u, 0 ≤ x ∧ x < (ts.length : Int)) → ∀ x ∈ u, P x.toNat := fun u => by
    induction u with
    | nil => intro _ _ x hx; cases hx
    | cons i u ih =>
      intro ht hr x hx
      have hu := ih ht.2.2 (fun x hx => hr x (List.mem_cons_of_mem _ hx))
      rcases List.mem_cons.1 hx with rfl | hx
      · obtain ⟨x0, x1⟩ := hr x (List.mem_cons_self ..)
        obtain ⟨j, rfl⟩ := Int.eq_ofNat_of_zero_le x0
        exact h j (by omega) (fun a ha => hu a (ht.1 a ha))
      · exact hu x hx
  intro i hi
  have := go _ (orderOf_topo ts hok) (fun x hx => orderOf_mem ts x (by simpa using hx)) (i : Int) (by rw [List.mem_reverse]; exact orderOf_all ts hl i hi)
  simpa using this
/-- What comes before a task is the least that holds its After and the After of all that it holds. -/
theorem bef_least {ts : List Task} (hok : AfterOk ts) (hl : (orderOf ts).length = ts.length) (L : Nat → Prop) (hL : ∀ y, y < ts.length → L y → ∀ z ∈ afterOf ts (y : Int), L z.toNat) :
    ∀ i, i < ts.length → (∀ z ∈ afterOf ts (i : Int), L z.toNat) → ∀ x, befAt ts i x = true → L x :=
  topo_ind hok hl _ fun i hi ih hz x hx => by
    rw [befAt_rule hok hl hi, List.any_eq_true] at hx
    obtain ⟨k, hk, hx⟩ := hx
    simp only [Bool.or_eq_true, decide_eq_true_eq] at hx
    rcases hx with rfl | hx
    · exact hz k hk
    · obtain ⟨k0, k1⟩ : 0 ≤ k ∧ k < (ts.length : Int) := by
        have hk' := hk
        rw [afterOf_lt hi] at hk'
        exact hok _ (List.getElem_mem hi) k hk'
      have e : ((k.toNat : Nat) : Int) = k := by omega
      refine ih k hk (fun z hz2 => ?_) x hx
      exact hL k.toNat (by omega) (hz k hk) z hz2
theorem after_range {ts : List Task} (hok : AfterOk ts) {i : Nat} {a : Int} (ha : a ∈ afterOf ts (i : Int)) : 0 ≤ a ∧ a < (ts.length : Int) := by
  by_cases hi : i < ts.length
  · rw [afterOf_lt hi] at ha
    exact hok _ (List.getElem_mem hi) a ha
  · have : afterOf ts (i : Int) = [] := by simp [afterOf, show ts.length ≤ i by omega]
    rw [this] at ha
    cases ha
theorem befAt_after {ts : List Task} (hok : AfterOk ts) (hl : (orderOf ts).length = ts.length) {i : Nat} (hi : i < ts.length) {z : Int} (hz : z ∈ afterOf ts (i : Int)) : befAt ts i z.toNat = true := by
  rw [befAt_rule hok hl hi, List.any_eq_true]
  exact ⟨z, hz, by simp⟩
/-- Behind what comes before a task, its After come before it too. -/
theorem befAt_step {ts : List Task} (hok : AfterOk ts) (hl : (orderOf ts).length = ts.length) : ∀ i, i < ts.length → ∀ y, befAt ts i y = true → ∀ z ∈ afterOf ts (y : Int), befAt ts i z.toNat = true :=
  topo_ind hok hl _ fun i hi ih y hy z hz => by
    rw [befAt_rule hok hl hi, List.any_eq_true] at hy ⊢
    obtain ⟨k, hk, hy⟩ := hy
    obtain ⟨k0, k1⟩ := after_range hok hk
    simp only [Bool.or_eq_true, decide_eq_true_eq] at hy
    refine ⟨k, hk, ?_⟩
    rw [Bool.or_eq_true]
    right
    rcases hy with rfl | hy
    · exact befAt_after hok hl (by omega) hz
    · exact ih k hk y hy z hz
theorem befAt_lt {ts : List Task} (hok : AfterOk ts) (hl : (orderOf ts).length = ts.length) {i : Nat} (hi : i < ts.length) {x : Nat} (h : befAt ts i x = true) : x < ts.length :=
  bef_least hok hl (fun y => y < ts.length) (fun y hy _ z hz => by have := after_range hok hz; omega) i hi (fun z hz => by have := after_range hok hz; omega) x h
theorem befAt_trans {ts : List Task} (hok : AfterOk ts) (hl : (orderOf ts).length = ts.length) {i y z : Nat} (hi : i < ts.length) (h1 : befAt ts i y = true) (h2 : befAt ts y z = true) : befAt ts i z = true :=
  bef_least hok hl (fun x => befAt ts i x = true) (fun x _ hx z hz => befAt_step hok hl i hi x hx z hz) y (befAt_lt hok hl hi h1) (fun z hz => befAt_step hok hl i hi y h1 z hz) z h2
/-- In the order, what comes before a task lies ahead of it. -/
theorem befAt_order {ts : List Task} (hok : AfterOk ts) (hl : (orderOf ts).length = ts.length) {a b : List Int} {i x : Nat} (hi : i < ts.length) (he : (orderOf ts).reverse = a ++ (i : Int) :: b) (h : befAt ts i x = true) : (x : Int) ∈ b := by
  have ht := orderOf_topo ts hok
  rw [he] at ht
  obtain ⟨h1, h2, h3⟩ := RTopo.drop _ ht
  refine bef_least hok hl (fun y => (y : Int) ∈ b) (fun y hy hb z hz => ?_) i hi (fun z hz => ?_) x h
  · have := after_range hok hz
    show ((z.toNat : Nat) : Int) ∈ b
    rw [show ((z.toNat : Nat) : Int) = z by omega]
    exact h3.sub _ hb _ hz
  · have := after_range hok hz
    show ((z.toNat : Nat) : Int) ∈ b
    rw [show ((z.toNat : Nat) : Int) = z by omega]
    exact h1 z hz
theorem befAt_irrefl {ts : List Task} (hok : AfterOk ts) (hl : (orderOf ts).length = ts.length) {i : Nat} (hi : i < ts.length) : befAt ts i i = false := by
  cases e : befAt ts i i with
  | false => rfl
  | true =>
    exfalso
    have hm : (i : Int) ∈ (orderOf ts).reverse := by rw [List.mem_reverse]; exact orderOf_all ts hl i hi
    obtain ⟨a, b, he⟩ := List.append_of_mem hm
    have h1 := befAt_order hok hl hi he e
    have ht := orderOf_topo ts hok
    rw [he] at ht
    exact (RTopo.drop _ ht).2.1 h1
end Go.Proofs.Ythigebbihclbiaa
