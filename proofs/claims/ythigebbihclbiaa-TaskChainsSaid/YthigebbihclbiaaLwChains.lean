/- The law TaskChains, walked. -/
import Derived.Test.YthigebbihclbiaaCritFacts
import Derived.Test.YthigebbihclbiaaLawCheck
import Derived.Deep.QuietTactic
namespace Go.Proofs.Ythigebbihclbiaa
open Go.RowKit
set_option maxRecDepth 100000

theorem chain_get {ts : List Task} : ∀ (q : List Int) (last : Int), ChainOk ts last q → ∀ j (h : j < q.length), (0 ≤ q[j] ∧ q[j] < (ts.length : Int)) ∧ (∀ (h0 : 0 < j), q[j-1] ∈ afterOf ts q[j])
  | [], _, _, j, h => absurd h (by simp)
  | i :: q, last, ⟨h1, h2, h3⟩, 0, _ => ⟨h1, fun h0 => absurd h0 (by omega)⟩
  | i :: q, last, ⟨h1, h2, h3⟩, j + 1, h => by
    have hi := chain_get q i h3
    have hj : j < q.length := by simpa using h
    refine ⟨(hi j hj).1, fun _ => ?_⟩
    cases j with
    | zero =>
      match q, h3, hj with
      | a :: q', ⟨_, g2, _⟩, _ =>
        rcases g2 with g2 | g2
        · omega
        · exact g2
    | succ j => exact (hi (j+1) hj).2 (by omega)
def sumUpto (ts : List Task) (l : List Int) (k : Nat) : Int := sumDur ts (l.take k)
theorem sumDur_snoc (ts : List Task) (x : Int) : ∀ l, sumDur ts (l ++ [x]) = sumDur ts l + durOf ts x
  | [] => by simp [sumDur]
  | y :: l => by rw [List.cons_append, sumDur, sumDur, sumDur_snoc ts x l]; omega

theorem sumDur_bd {ts : List Task} (hd : ∀ t ∈ ts, 1 ≤ t.dur ∧ t.dur ≤ 1048576) : ∀ l : List Int, (∀ x ∈ l, 0 ≤ x ∧ x < (ts.length : Int)) → 0 ≤ sumDur ts l
  | [], _ => Int.le_refl _
  | x :: l, h => by
    have h1 := sumDur_bd hd l (fun y hy => h y (List.mem_cons_of_mem _ hy))
    obtain ⟨x0, x1⟩ := h x (List.mem_cons_self ..)
    obtain ⟨j, rfl⟩ := Int.eq_ofNat_of_zero_le x0
    have := (hd _ (List.getElem_mem (show j < ts.length by omega))).1
    rw [sumDur, durOf_lt (show j < ts.length by omega)]
    omega
theorem sumDur_take {ts : List Task} (hd : ∀ t ∈ ts, 1 ≤ t.dur ∧ t.dur ≤ 1048576) (l : List Int) (hl : ∀ x ∈ l, 0 ≤ x ∧ x < (ts.length : Int)) (k : Nat) : sumDur ts (l.take k) ≤ sumDur ts l := by
  have e : sumDur ts l = sumDur ts (l.take k) + sumDur ts (l.drop k) := by
    have h : ∀ a b, sumDur ts (a ++ b) = sumDur ts a + sumDur ts b := fun a b => by
      induction a with
      | nil => simp [sumDur]
      | cons x a ih => rw [List.cons_append, sumDur, sumDur, ih]; omega
    rw [← h, List.take_append_drop]
  have := sumDur_bd hd (l.drop k) (fun x hx => hl x (List.mem_of_mem_drop hx))
  omega

set_option maxHeartbeats 4000000 in
theorem law_chains (s : Shop) (xs : List Nat) (F G : Nat → Prop) (v u : Value) (w : World) (h : ShopAt w F s v) (g : Kd.u8.Sl w G xs u) :
    Calls Try.prog 5 #[v, u] w fun e w' => e = .returned (.bool true) ∧ Below w.heap.size w w' := by
  obtain ⟨v1, v2, rfl, h1, h2⟩ := h
  have hS := Lib.hid (show ∀ W, Below w.heap.size w W → ShopAt W F s (.agg #[v1, v2]) from fun W hW => ⟨v1, v2, rfl, h1.keep (Agree.below hW), h2.keep (Agree.below hW)⟩)
  have hB := Boxed.start w v1 v2 25
  obtain ⟨A, c, rfl, hc1, hc2, hr⟩ := h1
  obtain ⟨B, d, rfl, _⟩ := h2
  obtain ⟨X, xc, rfl, hx1, hx2, hxr⟩ := g
  go_enter Try.func5, Try.ntmps5
  go_upto_region 1 with fail
  generalize w.alloc _ = W at *
  go_wp2_with fail
  refine (known_calls W).mono ?_
  rintro e w1 ⟨rfl, hb1⟩
  have hB1 := hB.later hb1
  clear hb1 hB
  have k0 := hB1.c0
  have k1 := hB1.c1
  go_wp2_with fail
  refine (few_calls s F _ w1 (hS.out _ hB1.below)).mono ?_
  rintro e w2 ⟨rfl, hb2⟩
  have hB2 := hB1.later hb2
  clear k0 k1 hb2 hB1
  cases hfa : fewOf s with
  | false =>
    go_wp2_with fail
    refine (known_calls w2).mono ?_
    rintro e w3 ⟨rfl, hb3⟩
    go_wp2_with fail
    go_ret
    exact ⟨rfl, (hB2.later hb3).below⟩
  | true =>
    clear hfa
    have k0 := hB2.c0
    have k1 := hB2.c1
    go_wp2_with fail
    refine (law_check s F _ w2 (hS.out _ hB2.below)).mono ?_
    rintro e w3 ⟨rfl, hb3⟩
    have hB3 := hB2.later hb3
    clear k0 k1 hb3 hB2
    by_cases hc : checkOf s = 0
    · by_cases hxl : 10 < xs.length
      · have q1 : decide ((10 : Int) < (xs.length : Int)) = true := decide_eq_true (by omega)
        rw [hc]
        go_wp2_with fail
        refine (known_calls w3).mono ?_
        rintro e w4 ⟨rfl, hb4⟩
        go_wp2_with fail
        go_ret
        exact ⟨rfl, (hB3.later hb4).below⟩
      have q1 : decide ((10 : Int) < (xs.length : Int)) = false := decide_eq_false (by omega)
      have hcr := task_critical s F _ w3 (hS.out _ hB3.below)
      have htl := Lib.hid (fun W hW => task_tails s F _ W (hS.out W hW))
      obtain ⟨f_ok, f_up, f_len, f_dur, f_are, f_path, f_sum, f_most, b1, b2⟩ := crit_facts s hc
      have f_rng : ∀ x ∈ critPath s, 0 ≤ x ∧ x < (s.tasks.length : Int) := fun x hx => by
        obtain ⟨j, hj, rfl⟩ := List.getElem_of_mem hx
        exact (chain_get _ _ f_path j hj).1
      have HC := Lib.hid (chain_get _ _ f_path)
      have HS1 := Lib.hid (fun k => sumDur_take f_dur (critPath s) f_rng k)
      have HS0 := Lib.hid (fun k => sumDur_bd f_dur ((critPath s).take k) (fun x hx => f_rng x (List.mem_of_mem_take hx)))
      have HSM := Lib.hid f_sum
      have HMO := Lib.hid f_most
      have HAR := Lib.hid f_are
      have HDU := Lib.hid f_dur
      have HOK := Lib.hid f_ok
      have HTL := Lib.hid f_len
      have gtl : (((tailsPub s).length : Int) != (s.tasks.length : Int)) = false := by rw [f_len]; simp
      clear f_ok f_up f_len f_dur f_are f_path f_sum f_most f_rng
      rw [hc] at hcr htl ⊢
      have k0 := hB3.c0
      have k1 := hB3.c1
      generalize critLen s = M at *
      generalize critPath s = P at *
      generalize tailsPub s = T at *
      go_wp2_with fail
      refine hcr.mono ?_
      rintro e w4 ⟨pv, rfl, ⟨pA, pc, rfl, hp1, hp2, hpr⟩, hb4⟩
      have hB4 := hB3.later hb4
      clear k0 k1 hb4 hB3 hcr q1
      have k0 := hB4.c0
      have k1 := hB4.c1
      go_wp2_with fail
      refine (htl.out _ hB4.below).mono ?_
      rintro e w5 ⟨tv, rfl, ⟨tA, tc, rfl, ht1, ht2, htr⟩, hb5⟩
      have hB5 := hB4.later hb5
      replace hpr := hpr.keep (Agree.below hb5)
      clear k0 k1 hb5 hB4 htl
      have k0 := hB5.c0
      have k1 := hB5.c1
      go_wp2_with fail
      clear k0 k1 gtl
      go_loopw [10, 12] (fun i10 i12 wr => ∃ k : Nat, k ≤ P.length ∧ i12 = .int .i64 k ∧ i10 = .int .i64 (sumDur s.tasks (P.take k)) ∧ Drawn w5 wr) (fun _ i12 _ => P.length - (intOf i12).toNat)
      case atStart => exact ⟨0, Nat.zero_le _, rfl, rfl, Drawn.refl _⟩
      case round =>
        obtain ⟨k, hk, rfl, rfl, hd⟩ := hrel
        have hBr := hB5.later (hd.below _)
        have k0 := hBr.c0
        by_cases hlt : k < P.length
        · have hpr' := hpr.keep (hd.agree _)
          obtain ⟨b5, o5, rfl, _, _, p0⟩ := int_at hpr' k hlt
          obtain ⟨⟨x0, x1⟩, hxp⟩ := HC.out k hlt
          have hprev : 0 < k → ∃ y, wr.cell? ⟨b5, o5 + (k - 1), none⟩ = some (.int .i64 y) ∧ y ∈ afterOf s.tasks P[k] := fun h0 => by
            obtain ⟨b6, o6, he6, _, _, p1⟩ := int_at hpr' (k - 1) (by omega)
            obtain ⟨rfl, rfl⟩ : b5 = b6 ∧ o5 = o6 := by simpa using he6
            exact ⟨_, p1, hxp h0⟩
          have HTK := Lib.hid (take_succ_at P k hlt)
          have hlt' : (k : Int) < (P.length : Int) := by omega
          have hs1 := HS1.out (k+1)
          have hs0 := HS0.out k
          rw [HSM.out] at hs1
          rw [HTK.out, sumDur_snoc] at hs1
          have HSS : Hid (sumDur s.tasks (P.take (k+1)) = sumDur s.tasks (P.take k) + durOf s.tasks P[k]) := Lib.hid (by rw [HTK.out, sumDur_snoc])
          generalize P[k] = x at *
          obtain ⟨x, rfl⟩ := Int.eq_ofNat_of_zero_le x0
          have hx : x < s.tasks.length := by omega
          obtain ⟨b, oo, A1, a1, rfl, _, _, _, c1, _, c3, hK⟩ := task_at (hr.keep (Agree.below hBr.below)) x hx
          have hA := Kd.K_after hK
          rw [durOf_lt hx] at hs1 HSS
          rw [afterOf_lt hx] at hprev
          have hdx := HDU.out _ (List.getElem_mem hx)
          generalize s.tasks[x].dur = dx at *
          generalize s.tasks[x].after = al at *
          generalize sumDur s.tasks (P.take k) = S at *
          have d1 : 1 ≤ dx := hdx.1
          have g1 : decide ((x : Int) < 0) = false := decide_eq_false (by omega)
          have g2 : decide ((s.tasks.length : Int) ≤ (x : Int)) = false := decide_eq_false (by omega)
          have g2n : decide (s.tasks.length ≤ x) = false := decide_eq_false (by omega)
          have g2p : ¬ s.tasks.length ≤ x := by omega
          clear hxp hK hdx hpr'
          rcases Nat.eq_zero_or_pos k with hk0 | hk0
          · have g3 : ¬ 0 < k := by omega
            have g4 : decide (0 < k) = false := decide_eq_false g3
            have g5 : decide ((0 : Int) < (k : Int)) = false := decide_eq_false (by omega)
            clear hprev hk0
            go_wp2_with fail
            go_quiet (fail)
            go_wp2_with fail
            go_quiet (fail)
            go_wp2_with fail
            go_roundw
            case rel => exact ⟨k+1, by omega, by go_num, by rw [HSS.out], hd.step _⟩
            case measure => simp [intOf]; omega
          · obtain ⟨y, p1, hy⟩ := hprev hk0
            have g4 : decide (0 < k) = true := decide_eq_true hk0
            have g5 : decide ((0 : Int) < (k : Int)) = true := decide_eq_true (by omega)
            have hkl : k - 1 < P.length := by omega
            have hcall := fun n => has_calls (.slice A1 al.length a1) F al y (wr.drewN n) (hA.keep ((Drawn.of wr n).agree _))
            rw [show al.contains y = true from List.contains_iff_mem.2 hy] at hcall
            clear hprev hy
            go_wp2_with fail
            go_quiet ((go_at_call 22; exact quiet_first (hcall _)))
            go_wp2_with fail
            go_quiet (fail)
            go_wp2_with fail
            go_roundw
            case rel => exact ⟨k+1, by omega, by go_num, by rw [HSS.out], hd.step _⟩
            case measure => simp [intOf]; omega
        · have hsm : sumDur s.tasks (P.take k) = M := by rw [List.take_of_length_le (by omega), HSM.out]
          rw [hsm]
          clear hsm HS1 HS0 HC
          obtain ⟨w6, rfl⟩ : ∃ w6 : World, w6 = wr := ⟨_, rfl⟩
          have htr' := htr.keep (hd.agree _)
          go_wp2_with fail
          clear k0
          go_loopw [11, 13] (fun i11 i13 wr => ∃ k : Nat, k ≤ T.length ∧ i13 = .int .i64 k ∧ i11 = .int .i64 ((T.take k).foldl max 0) ∧ wr = w6) (fun _ i13 _ => T.length - (intOf i13).toNat)
          case atStart => exact ⟨0, Nat.zero_le _, rfl, rfl, rfl⟩
          case round =>
            obtain ⟨k, hk, rfl, rfl, rfl⟩ := hrel
            by_cases hlt2 : k < T.length
            · obtain ⟨b5, o5, rfl, _, _, p0⟩ := int_at htr' k hlt2
              have hlt' : (k : Int) < (T.length : Int) := by omega
              have HTK : Hid ((T.take (k+1)).foldl max 0 = max ((T.take k).foldl max 0) T[k]) := Lib.hid (by rw [take_succ_at T k hlt2, List.foldl_append]; rfl)
              generalize (T.take k).foldl max 0 = m at *
              generalize T[k] = x at *
              go_wp2_with fail
              go_roundw
              case rel => exact ⟨k+1, by omega, by go_num, by rw [HTK.out], by first | trivial | rfl⟩
              case measure => simp [intOf]; omega
            · have hmm : (T.take k).foldl max 0 = M := by rw [List.take_of_length_le (by omega), HMO.out]
              rw [hmm]
              clear hmm
              obtain ⟨w7, rfl⟩ : ∃ w7 : World, w7 = wr := ⟨_, rfl⟩
              have k0 := hBr.c0
              have gM : (M != M) = false := by simp
              have gE : (M == M) = true := by simp
              by_cases hn : s.tasks.length = 0
              · have gn : ((s.tasks.length : Int) == 0) = true := by simpa using hn
                clear hn
                go_wp2_with fail
                go_ret
                exact ⟨rfl, hBr.below⟩
              · have gn : ((s.tasks.length : Int) == 0) = false := by simpa using hn
                have hn0 : 0 < s.tasks.length := by omega
                have HGM : Hid (∀ i : Nat, i < s.tasks.length → geti T i ≤ M) := Lib.hid (fun i hi => by
                  have hiT : i < T.length := by rw [HTL.out]; exact hi
                  have h1 := (foldl_max T 0).1.2 T[i] (List.getElem_mem hiT)
                  rw [HMO.out] at h1
                  have h2 : geti T i = T[i] := by simp [geti, hiT]
                  rw [h2]
                  exact h1)
                have hr7 := hr.keep (Agree.below hBr.below)
                have hx7 := hxr.keep (Agree.below hBr.below)
                clear gn hn
                go_wp2_with fail
                clear gM gE
                go_loopw [14, 15, 16, 17] (fun i14 i15 i16 _ wr => ∃ (at' j : Nat) (L : Int), at' < s.tasks.length ∧ j ≤ xs.length ∧ i14 = .int .i64 at' ∧ i15 = .int .i64 L ∧ i16 = .int .i64 j ∧ wr = w7 ∧ 0 ≤ L ∧ L ≤ M ∧ Hid (L + durOf s.tasks at' ≤ geti T at')) (fun _ _ i16 _ _ => xs.length - (intOf i16).toNat)
                case atStart => exact ⟨xs.length % s.tasks.length, 0, 0, Nat.mod_lt _ hn0, Nat.zero_le _, by simp, rfl, rfl, rfl, Int.le_refl _, b1, Lib.hid (by have := HAR.out.own ((xs.length % s.tasks.length : Nat) : Int) (by omega) (by have := Nat.mod_lt xs.length hn0; omega); omega)⟩
                case round =>
                  obtain ⟨q, j, L, hq, hj, rfl, rfl, rfl, rfl, L0, L1, HLT⟩ := hrel
                  by_cases hjl : j < xs.length
                  · obtain ⟨b, oo, A1, a1, rfl, _, _, _, c1, _, c3, hK⟩ := task_at hr7 q hq
                    obtain ⟨A3, a3, he3, ha1, ha2, hra⟩ := Kd.K_after hK
                    obtain ⟨rfl, -, rfl⟩ := Value.slice.inj he3
                    clear he3 hK
                    have hjl' : (j : Int) < (xs.length : Int) := by omega
                    have hq' : (q : Int) < (s.tasks.length : Int) := by omega
                    have hL2 := HLT.out
                    have hgm := HGM.out q hq
                    rw [durOf_lt hq] at hL2
                    have hdq := HDU.out _ (List.getElem_mem hq)
                    have d1 : 1 ≤ s.tasks[q].dur := hdq.1
                    have d2 : L + s.tasks[q].dur ≤ M := by omega
                    have HNX : Hid (∀ y : Nat, y < s.tasks.length → (y : Int) ∈ s.tasks[q].after → L + s.tasks[q].dur + durOf s.tasks y ≤ geti T y) := Lib.hid (fun y hy hm => by
                      have := HAR.out.ge y q (by omega) (by omega) (by omega) (by omega) (by rw [afterOf_lt hq]; exact hm)
                      omega)
                    have HRA := Lib.hid (HOK.out _ (List.getElem_mem hq))
                    generalize s.tasks[q].dur = dq at *
                    generalize s.tasks[q].after = al at *
                    clear hL2 hgm hdq
                    by_cases hal : al.length = 0
                    · have gl : ((al.length : Int) == 0) = true := by simpa using hal
                      have gle : decide (L + dq ≤ M) = true := decide_eq_true d2
                      clear hal
                      go_wp2_with fail
                      go_ret
                      exact ⟨rfl, hBr.below⟩
                    · have gl : ((al.length : Int) == 0) = false := by simpa using hal
                      have hal0 : 0 < al.length := by omega
                      obtain ⟨bx, ox, csx, hbX, _, ⟨hcsx, hxb⟩, hcx⟩ := hx7 j hjl
                      subst hcsx
                      subst hbX
                      have cx := hcx 0 _ rfl
                      simp only [Kd.u8, Kd.scal, Nat.mul_one, Nat.add_zero] at cx
                      have hxb' : xs[j] < 256 := hxb
                      generalize xs[j] = z at *
                      have hmod : (z : Int) % (al.length : Int) = ((z % al.length : Nat) : Int) := by simp
                      have hml : z % al.length < al.length := Nat.mod_lt _ hal0
                      generalize z % al.length = r at *
                      obtain ⟨b6, o6, rfl, _, _, cy⟩ := int_at hra r hml
                      have hry : (r : Int) < (al.length : Int) := by omega
                      obtain ⟨y0, y1⟩ := HRA.out al[r] (List.getElem_mem _)
                      have HYM : Hid (al[r] ∈ al) := Lib.hid (List.getElem_mem _)
                      generalize al[r] = y at *
                      obtain ⟨y, rfl⟩ := Int.eq_ofNat_of_zero_le y0
                      have HY2 := Lib.hid (HNX.out y (by omega) HYM.out)
                      clear hal hcx hxb
                      go_wp2_with fail
                      go_roundw
                      case rel => exact ⟨y, j+1, L + dq, by omega, by omega, rfl, rfl, by go_num, by first | trivial | rfl, by omega, d2, HY2⟩
                      case measure => simp [intOf]; omega
                  · have gle : decide (L ≤ M) = true := decide_eq_true L1
                    go_wp2_with fail
                    go_ret
                    exact ⟨rfl, hBr.below⟩
    · have ge : (checkOf s != 0) = true := by simpa using hc
      go_wp2_with fail
      refine (known_calls w3).mono ?_
      rintro e w4 ⟨rfl, hb4⟩
      go_wp2_with fail
      go_ret
      exact ⟨rfl, (hB3.later hb4).below⟩
end Go.Proofs.Ythigebbihclbiaa
