/- The reduced tasks, in plain Lean: what Reduce keeps. -/
import Derived.Test.YthigebbihclbiaaLawTail
import Derived.Test.YthigebbihclbiaaOrdSteps
namespace Go.Proofs.Ythigebbihclbiaa
open Go.RowKit

/-- Where no task is ready, all of a list that is in order are done. -/
theorem stuck_all {ts : List Task} {done : List Bool} {out : List Int} (h : OrdInv ts done out) (hok : AfterOk ts) (hs : nextReady ts done = ts.length) : ∀ u, RTopo ts u → ∀ k : Nat, k < ts.length → (k : Int) ∈ u → (k : Int) ∈ out
  | [], _, _, _, hm => by cases hm
  | i :: u, ht, k, hk, hm => by
    obtain ⟨h1, _, h3⟩ := ht
    have ih := stuck_all h hok hs u h3
    rcases List.mem_cons.1 hm with e | hm
    · by_cases ho : (k : Int) ∈ out
      · exact ho
      · exfalso
        have hn := next_first ts done k (by rw [hs]; exact hk)
        rw [← okAt_ready h hok hk] at hn
        have hy : okAt ts out k = true := by
          unfold okAt
          rw [Bool.and_eq_true, Bool.not_eq_true', List.all_eq_true]
          refine ⟨?_, fun j hj => ?_⟩
          · cases e2 : out.contains (k : Int) with
            | false => rfl
            | true => exact absurd (List.contains_iff_mem.1 e2) ho
          · rw [List.contains_iff_mem]
            obtain ⟨j0, j1⟩ := after_range hok hj
            obtain ⟨j, rfl⟩ := Int.eq_ofNat_of_zero_le j0
            exact ih j (by omega) (h1 _ (e ▸ hj))
        rw [hy] at hn
        cases hn
    · exact ih k hk hm
theorem order_full {ts : List Task} (hok : AfterOk ts) (u : List Int) (ht : RTopo ts u) (hu : ∀ k : Nat, k < ts.length → (k : Int) ∈ u) : ∀ (f : Nat) (done : List Bool) (out : List Int), OrdInv ts done out → ts.length ≤ out.length + f → (orderGo ts f done out).length = ts.length
  | 0, done, out, h, hf => by have := h.cnt; rw [orderGo]; omega
  | f + 1, done, out, h, hf => by
    rw [orderGo]
    split
    · rename_i hs
      have hall := stuck_all h hok hs u ht
      have h0 : left done = 0 := by
        unfold left
        rw [List.countP_eq_zero]
        intro x hx
        obtain ⟨k, hk, rfl⟩ := List.getElem_of_mem hx
        have hk2 : k < ts.length := by rw [← h.len]; exact hk
        have := (h.iff k hk2).2 (hall k hk2 (hu k hk2))
        have e : done[k] = true := by simpa [hk] using this
        simp [e]
      have := h.cnt
      omega
    · rename_i hn
      exact order_full hok u ht hu f _ _ (h.step hn) (by rw [List.length_append, List.length_singleton]; omega)
theorem topo_full {ts : List Task} (hok : AfterOk ts) (u : List Int) (ht : RTopo ts u) (hu : ∀ k : Nat, k < ts.length → (k : Int) ∈ u) : (orderOf ts).length = ts.length :=
  order_full hok u ht hu _ _ _ (OrdInv.start ts) (by simp)

def redTs (ts : List Task) : List Task := ts.map (redTask ts)
theorem red_len (ts : List Task) : (redTs ts).length = ts.length := by simp [redTs]
theorem red_after (ts : List Task) (i : Int) : afterOf (redTs ts) i = redAfter ts (afterOf ts i) := by
  unfold afterOf redTs
  rw [List.getElem?_map]
  cases ts[i.toNat]? <;> rfl
theorem red_dur (ts : List Task) (i : Int) : durOf (redTs ts) i = durOf ts i := by
  unfold durOf redTs
  rw [List.getElem?_map]
  cases ts[i.toNat]? <;> rfl
theorem mem_red {ts : List Task} {al : List Int} {z : Int} : z ∈ redAfter ts al ↔ z ∈ al ∧ ∀ j ∈ al, befAt ts j.toNat z.toNat = false := by
  unfold redAfter
  rw [List.mem_filter, Bool.not_eq_true', List.any_eq_false]
  simp
theorem red_ok {ts : List Task} (hok : AfterOk ts) : AfterOk (redTs ts) := by
  intro t ht x hx
  obtain ⟨t0, h0, rfl⟩ := List.mem_map.1 ht
  rw [red_len]
  exact hok t0 h0 x (mem_red.1 hx).1
theorem red_topo {ts : List Task} : ∀ {u : List Int}, RTopo ts u → RTopo (redTs ts) u
  | [], _ => trivial
  | i :: u, ⟨h1, h2, h3⟩ => ⟨fun a ha => h1 a (by rw [red_after] at ha; exact (mem_red.1 ha).1), h2, red_topo h3⟩
theorem red_full {ts : List Task} (hok : AfterOk ts) (hl : (orderOf ts).length = ts.length) : (orderOf (redTs ts)).length = (redTs ts).length :=
  topo_full (red_ok hok) (orderOf ts).reverse (red_topo (orderOf_topo ts hok)) (fun k hk => by rw [List.mem_reverse]; exact orderOf_all ts hl k (by rw [red_len] at hk; exact hk))

theorem countP_le (p q : Nat → Bool) : ∀ n, (∀ x, x < n → p x = true → q x = true) → (List.range n).countP p ≤ (List.range n).countP q
  | 0, _ => Nat.le_refl _
  | n + 1, h => by
    have := countP_le p q n (fun x hx => h x (by omega))
    have h2 := h n (by omega)
    rw [List.range_succ, List.countP_append, List.countP_append, List.countP_singleton, List.countP_singleton]
    cases e : p n with
    | false => simp; split <;> omega
    | true => rw [h2 e]; simp; omega
theorem countP_lt (p q : Nat → Bool) : ∀ n, (∀ x, x < n → p x = true → q x = true) → ∀ y, y < n → p y = false → q y = true → (List.range n).countP p < (List.range n).countP q
  | 0, _, y, hy, _, _ => absurd hy (Nat.not_lt_zero y)
  | n + 1, h, y, hy, hp, hq => by
    have h2 := h n (by omega)
    rw [List.range_succ, List.countP_append, List.countP_append, List.countP_singleton, List.countP_singleton]
    by_cases e : y = n
    · subst e
      have := countP_le p q y (fun x hx => h x (by omega))
      rw [hp, hq]; simp; omega
    · have := countP_lt p q n (fun x hx => h x (by omega)) y (by omega) hp hq
      cases e2 : p n with
      | false => simp; split <;> omega
      | true => rw [h2 e2]; simp; omega
/-- How many come before a task. -/
def rankOf (ts : List Task) (i : Nat) : Nat := (List.range ts.length).countP (befAt ts i)
theorem rank_lt {ts : List Task} (hok : AfterOk ts) (hl : (orderOf ts).length = ts.length) {i k : Nat} (hi : i < ts.length) (h : befAt ts i k = true) : rankOf ts k < rankOf ts i := by
  have hk := befAt_lt hok hl hi h
  exact countP_lt _ _ _ (fun x _ hx => befAt_trans hok hl hi h hx) k hk (befAt_irrefl hok hl hk) h
theorem red_bef_sub {ts : List Task} (hok : AfterOk ts) (hl : (orderOf ts).length = ts.length) {i : Nat} (hi : i < ts.length) : ∀ x, befAt (redTs ts) i x = true → befAt ts i x = true := by
  have sub : ∀ (y : Nat) (z : Int), z ∈ afterOf (redTs ts) (y : Int) → z ∈ afterOf ts (y : Int) := fun y z hz => by rw [red_after] at hz; exact (mem_red.1 hz).1
  exact bef_least (red_ok hok) (red_full hok hl) (fun x => befAt ts i x = true) (fun y hy hL z hz => befAt_step hok hl i hi y hL z (sub y z hz)) i (by rw [red_len]; exact hi) (fun z hz => befAt_after hok hl hi (sub i z hz))
theorem red_bef_sup {ts : List Task} (hok : AfterOk ts) (hl : (orderOf ts).length = ts.length) : ∀ (d i k : Nat), i < ts.length → rankOf ts i ≤ rankOf ts k + d → befAt ts i k = true → befAt (redTs ts) i k = true
  | 0, i, k, hi, hr, h => by have := rank_lt hok hl hi h; omega
  | d + 1, i, k, hi, hr, h => by
    have hok2 := red_ok hok
    have hl2 := red_full hok hl
    have hi2 : i < (redTs ts).length := by rw [red_len]; exact hi
    by_cases hm : (k : Int) ∈ afterOf (redTs ts) (i : Int)
    · have := befAt_after hok2 hl2 hi2 hm
      simpa using this
    · have hj : ∃ j : Nat, j < ts.length ∧ befAt ts i j = true ∧ befAt ts j k = true := by
        have h' := h
        rw [befAt_rule hok hl hi, List.any_eq_true] at h'
        obtain ⟨j, hj, h'⟩ := h'
        obtain ⟨j0, j1⟩ := after_range hok hj
        simp only [Bool.or_eq_true, decide_eq_true_eq] at h'
        rcases h' with rfl | h'
        · rw [red_after, mem_red] at hm
          have hm2 : ¬ ∀ j' ∈ afterOf ts (i : Int), befAt ts j'.toNat j.toNat = false := fun hh => hm ⟨by rw [show ((j.toNat : Nat) : Int) = j by omega]; exact hj, fun q hq => by rw [Int.toNat_natCast]; exact hh q hq⟩
          simp only [Classical.not_forall] at hm2
          obtain ⟨q, hq, hqb⟩ := hm2
          obtain ⟨q0, q1⟩ := after_range hok hq
          exact ⟨q.toNat, by omega, befAt_after hok hl hi hq, by simpa using hqb⟩
        · exact ⟨j.toNat, by omega, befAt_after hok hl hi hj, h'⟩
      obtain ⟨j, hjn, h1, h2⟩ := hj
      have r1 := rank_lt hok hl hi h1
      have r2 := rank_lt hok hl hjn h2
      exact befAt_trans hok2 hl2 hi2 (red_bef_sup hok hl d i j hi (by omega) h1) (red_bef_sup hok hl d j k hjn (by omega) h2)
/-- The reduced tasks have the same tasks before each. -/
theorem red_bef {ts : List Task} (hok : AfterOk ts) (hl : (orderOf ts).length = ts.length) {i : Nat} (hi : i < ts.length) (k : Nat) : befAt (redTs ts) i k = befAt ts i k := by
  rw [Bool.eq_iff_iff]
  exact ⟨red_bef_sub hok hl hi k, red_bef_sup hok hl (rankOf ts i) i k hi (by omega)⟩
theorem red_lists {ts : List Task} (hok : AfterOk ts) (hl : (orderOf ts).length = ts.length) : befLists (redTs ts) = befLists ts := by
  unfold befLists
  rw [red_len]
  refine List.map_congr_left fun i hi => ?_
  exact truesUpto_congr _ (fun x _ => red_bef hok hl (List.mem_range.1 hi) x)
/-- The reduced tasks are their own reduction. -/
theorem red_red {ts : List Task} (hok : AfterOk ts) (hl : (orderOf ts).length = ts.length) : redTs (redTs ts) = redTs ts := by
  have e : ∀ t ∈ redTs ts, redTask (redTs ts) t = t := fun t ht => by
    obtain ⟨t0, h0, rfl⟩ := List.mem_map.1 ht
    show ({ redTask ts t0 with after := redAfter (redTs ts) (redAfter ts t0.after) } : Task) = redTask ts t0
    have h2 : redAfter (redTs ts) (redAfter ts t0.after) = redAfter ts t0.after := by
      show (redAfter ts t0.after).filter _ = _
      rw [List.filter_eq_self]
      intro k hk
      rw [Bool.not_eq_true', List.any_eq_false]
      intro j hj
      obtain ⟨hj1, hj2⟩ := mem_red.1 hj
      obtain ⟨hk1, hk2⟩ := mem_red.1 hk
      have := hok t0 h0 j hj1
      rw [red_bef hok hl (show j.toNat < ts.length by omega), hk2 j hj1]
      simp
    rw [h2]
    rfl
  show (redTs ts).map (redTask (redTs ts)) = redTs ts
  rw [List.map_congr_left e, List.map_id']

/-- What comes before a task has a longer tail. -/
theorem bef_tail {ts : List Task} {T : List Int} (hok : AfterOk ts) (hl : (orderOf ts).length = ts.length) (hT : TailsAre ts T) (hd : ∀ i : Int, 0 ≤ i → i < (ts.length : Int) → 1 ≤ durOf ts i) {i : Nat} (hi : i < ts.length) : ∀ k, befAt ts i k = true → durOf ts (k : Int) + geti T (i : Int) ≤ geti T (k : Int) := by
  refine bef_least hok hl (fun k => durOf ts (k : Int) + geti T (i : Int) ≤ geti T (k : Int)) (fun y hy hL z hz => ?_) i hi (fun z hz => ?_)
  · obtain ⟨z0, z1⟩ := after_range hok hz
    show durOf ts ((z.toNat : Nat) : Int) + geti T (i : Int) ≤ geti T ((z.toNat : Nat) : Int)
    rw [show ((z.toNat : Nat) : Int) = z by omega]
    have h1 := hT.ge z y z0 z1 (by omega) (by omega) hz
    have h2 := hd y (by omega) (by omega)
    have h3 : durOf ts (y : Int) + geti T (i : Int) ≤ geti T (y : Int) := hL
    omega
  · obtain ⟨z0, z1⟩ := after_range hok hz
    show durOf ts ((z.toNat : Nat) : Int) + geti T (i : Int) ≤ geti T ((z.toNat : Nat) : Int)
    rw [show ((z.toNat : Nat) : Int) = z by omega]
    exact hT.ge z i z0 z1 (by omega) (by omega) hz
theorem red_are {ts : List Task} {T : List Int} (hok : AfterOk ts) (hl : (orderOf ts).length = ts.length) (hT : TailsAre ts T) (hd : ∀ i : Int, 0 ≤ i → i < (ts.length : Int) → 1 ≤ durOf ts i) : TailsAre (redTs ts) T := by
  refine ⟨fun k i k0 k1 i0 i1 hk => ?_, fun k k0 k1 => ?_, fun k k0 k1 => ?_⟩
  · rw [red_len] at k1 i1
    rw [red_after] at hk
    rw [red_dur]
    exact hT.ge k i k0 k1 i0 i1 (mem_red.1 hk).1
  · rw [red_len] at k1
    rw [red_dur]
    exact hT.own k k0 k1
  · rw [red_len] at k1 ⊢
    rw [red_dur]
    rcases hT.hit k k0 k1 with h | ⟨i, i0, i1, hk, h⟩
    · exact .inl h
    · refine .inr ⟨i, i0, i1, ?_, h⟩
      rw [red_after, mem_red]
      refine ⟨hk, fun j hj => ?_⟩
      cases e : befAt ts j.toNat k.toNat with
      | false => rfl
      | true =>
        exfalso
        obtain ⟨q, rfl⟩ := Int.eq_ofNat_of_zero_le i0
        obtain ⟨j0, j1⟩ := after_range hok hj
        have h1 := hT.ge j q j0 j1 i0 i1 hj
        have h2 := bef_tail hok hl hT hd (show j.toNat < ts.length by omega) k.toNat e
        rw [show ((k.toNat : Nat) : Int) = k by omega, show ((j.toNat : Nat) : Int) = j by omega] at h2
        have h3 := hd j j0 j1
        omega
theorem tails_unique {ts : List Task} {T U : List Int} (hok : AfterOk ts) (hl : (orderOf ts).length = ts.length) (hT : TailsAre ts T) (hU : TailsAre ts U) : ∀ k, k < ts.length → geti T (k : Int) = geti U (k : Int) := by
  refine topo_up hok hl _ fun k hk ih => ?_
  have h1 := hT.own k (by omega) (by omega)
  have h2 := hU.own k (by omega) (by omega)
  have a : geti T (k : Int) ≤ geti U (k : Int) := by
    rcases hT.hit k (by omega) (by omega) with h | ⟨i, i0, i1, hi, h⟩
    · omega
    · obtain ⟨j, rfl⟩ := Int.eq_ofNat_of_zero_le i0
      have := hU.ge k j (by omega) (by omega) i0 i1 hi
      have := ih j (by omega) hi
      omega
  have b : geti U (k : Int) ≤ geti T (k : Int) := by
    rcases hU.hit k (by omega) (by omega) with h | ⟨i, i0, i1, hi, h⟩
    · omega
    · obtain ⟨j, rfl⟩ := Int.eq_ofNat_of_zero_le i0
      have := hT.ge k j (by omega) (by omega) i0 i1 hi
      have := ih j (by omega) hi
      omega
  omega

theorem afterErr_ne (n i : Int) : ∀ (p : Option Int) (l : List Int), afterErr n i p l = 0 → ∀ x ∈ l, x ≠ i
  | _, [], _, x, hx => by cases hx
  | p, y :: l, h, x, hx => by
    rw [afterErr] at h
    by_cases h1 : y < 0 ∨ n ≤ y
    · rw [if_pos h1] at h; omega
    · rw [if_neg h1] at h
      by_cases h2 : y = i
      · rw [if_pos h2] at h; omega
      · rw [if_neg h2] at h
        by_cases h3 : p.any (fun q => decide (y ≤ q)) = true
        · rw [if_pos h3] at h; omega
        · rw [if_neg h3] at h
          rcases List.mem_cons.1 hx with rfl | hx
          · exact h2
          · exact afterErr_ne n i _ l h x hx
theorem afterErr_mk (n i : Int) : ∀ (p : Option Int) (l : List Int), (∀ x ∈ l, 0 ≤ x ∧ x < n ∧ x ≠ i) → (∀ q, p = some q → ∀ x ∈ l, q < x) → l.Pairwise (· < ·) → afterErr n i p l = 0
  | _, [], _, _, _ => rfl
  | p, y :: l, h, hq, hp => by
    obtain ⟨h1, h2, h3⟩ := h y (List.mem_cons_self ..)
    obtain ⟨p1, p2⟩ := List.pairwise_cons.1 hp
    rw [afterErr, if_neg (by omega), if_neg h3, if_neg]
    · exact afterErr_mk n i _ l (fun x hx => h x (List.mem_cons_of_mem _ hx)) (fun q e x hx => by cases e; exact p1 x hx) p2
    · intro e
      cases p with
      | none => simp at e
      | some q =>
        have := hq q rfl y (List.mem_cons_self ..)
        simp at e
        omega
/-- The reduced shop is valid. -/
theorem red_check {s : Shop} (hc : checkOf s = 0) : checkOf (reduceOf s) = 0 := by
  obtain ⟨l1, l2, Z, hnl, Z2, Z3⟩ := zero_of_check s hc
  have hok := afterOk_of _ Z
  have hlen : (orderOf s.tasks).length = s.tasks.length := by have := orderOf_len s.tasks; omega
  have e1 : (reduceOf s).tasks = redTs s.tasks := rfl
  have e2 : (reduceOf s).stations = s.stations := rfl
  have hZ : errFrom (taskErr (redTs s.tasks)) (redTs s.tasks).length 0 = 0 := by
    refine errFrom_of _ _ _ fun j _ hj => ?_
    have hj2 : j < s.tasks.length := by rw [red_len] at hj; omega
    obtain ⟨a1, a2, a3, a4, a5, a6⟩ := taskErr_after s.tasks j hj2 (errFrom_zero _ _ _ Z j (by omega) (by omega))
    have hr := afterErr_range _ _ _ _ a1
    have hn := afterErr_ne _ _ _ _ a1
    have hp := (afterErr_up _ _ _ _ a1).2
    unfold taskErr redTs
    rw [List.getElem?_map, List.getElem?_eq_getElem hj2]
    show taskErr1 (redTs s.tasks) j (redTask s.tasks s.tasks[j]) = 0
    unfold taskErr1
    have b1 : (redTask s.tasks s.tasks[j]).name = s.tasks[j].name := rfl
    have b2 : (redTask s.tasks s.tasks[j]).dur = s.tasks[j].dur := rfl
    have b3 : (redTask s.tasks s.tasks[j]).tool = s.tasks[j].tool := rfl
    have b4 : (redTask s.tasks s.tasks[j]).after = redAfter s.tasks s.tasks[j].after := rfl
    have b5 : ((redTs s.tasks).take j).any (fun x => seq x.name s.tasks[j].name) = false := by
      unfold redTs
      rw [← List.map_take, List.any_map]
      exact a6
    rw [b1, b2, b3, b4, b5, red_len]
    rw [if_neg (by rw [a4]; decide), if_neg (by decide), if_neg (by omega), if_neg (by
      rintro ⟨c1, c2⟩
      rcases a5 with c | c
      · rw [c] at c1; cases c1
      · rw [c] at c2; cases c2)]
    refine afterErr_mk _ _ _ _ (fun x hx => ?_) (fun q e => nomatch e) (hp.sublist List.filter_sublist)
    have hx := (mem_red.1 hx).1
    exact ⟨(hr x hx).1, (hr x hx).2, hn x hx⟩
  unfold checkOf
  rw [e1, e2, red_len, if_neg (by omega)]
  unfold check0
  rw [e1, hZ, if_pos rfl]
  unfold check1
  rw [e1, red_full hok hlen, if_neg (Nat.lt_irrefl _)]
  unfold check2
  rw [e2, Z2, if_pos rfl]
  unfold check3
  rw [e1, e2]
  unfold redTs
  rw [List.any_map]
  rw [if_neg]
  intro e
  rw [show (fun t : Task => (toolsOf s.stations t.tool).isEmpty) ∘ redTask s.tasks = fun t => (toolsOf s.stations t.tool).isEmpty from rfl, Z3] at e
  cases e
theorem red_reduce {s : Shop} (hc : checkOf s = 0) : reduceOf (reduceOf s) = reduceOf s := by
  obtain ⟨l1, l2, Z, hnl, Z2, Z3⟩ := zero_of_check s hc
  have hlen : (orderOf s.tasks).length = s.tasks.length := by have := orderOf_len s.tasks; omega
  show (⟨redTs (redTs s.tasks), s.stations⟩ : Shop) = ⟨redTs s.tasks, s.stations⟩
  rw [red_red (afterOk_of _ Z) hlen]
theorem red_crit {s : Shop} (hc : checkOf s = 0) : critLen (reduceOf s) = critLen s := by
  obtain ⟨l1, l2, Z, hnl, Z2, Z3⟩ := zero_of_check s hc
  have hok := afterOk_of _ Z
  have hlen : (orderOf s.tasks).length = s.tasks.length := by have := orderOf_len s.tasks; omega
  have h1 := crit_facts s hc
  have h2 := crit_facts (reduceOf s) (red_check hc)
  have hd : ∀ i : Int, 0 ≤ i → i < (s.tasks.length : Int) → 1 ≤ durOf s.tasks i := fun i i0 i1 => by
    obtain ⟨j, rfl⟩ := Int.eq_ofNat_of_zero_le i0
    rw [durOf_lt (show j < s.tasks.length by omega)]
    exact (h1.dur _ (List.getElem_mem _)).1
  have hu := tails_unique (red_ok hok) (red_full hok hlen) h2.are (red_are hok hlen h1.are hd)
  have hl2 : (tailsPub (reduceOf s)).length = (redTs s.tasks).length := h2.len
  have e : tailsPub (reduceOf s) = tailsPub s := by
    refine List.ext_getElem (by rw [hl2, red_len, h1.len]) fun k k1 k2 => ?_
    have := hu k (by rw [← hl2]; exact k1)
    simpa [geti, k1, k2] using this
  rw [← h2.most, ← h1.most, e]
/-- In the order, what comes before a task is among those ahead of it. -/
theorem order_has {s : Shop} (hc : checkOf s = 0) {x : Nat} (hx : x < (orderOf s.tasks).length) {i : Nat} (hi : (orderOf s.tasks)[x] = (i : Int)) (hin : i < s.tasks.length) {y : Int} (hy : y ∈ truesUpto (befAt s.tasks i) s.tasks.length) : ((orderOf s.tasks).take x).contains y = true := by
  obtain ⟨l1, l2, Z, hnl, Z2, Z3⟩ := zero_of_check s hc
  have hlen : (orderOf s.tasks).length = s.tasks.length := by have := orderOf_len s.tasks; omega
  rw [truesUpto_mem] at hy
  obtain ⟨j, hj, rfl, hb⟩ := hy
  rw [List.contains_iff_mem]
  have e : (orderOf s.tasks).reverse = ((orderOf s.tasks).drop (x+1)).reverse ++ (i : Int) :: ((orderOf s.tasks).take x).reverse := by
    have h : orderOf s.tasks = (orderOf s.tasks).take x ++ (i : Int) :: (orderOf s.tasks).drop (x+1) := by
      rw [← hi, ← List.drop_eq_getElem_cons hx, List.take_append_drop]
    have h' := congrArg List.reverse h
    rw [List.reverse_append, List.reverse_cons, List.append_assoc] at h'
    exact h'
  have := befAt_order (afterOk_of _ Z) hlen hin e hb
  simpa using this
end Go.Proofs.Ythigebbihclbiaa
