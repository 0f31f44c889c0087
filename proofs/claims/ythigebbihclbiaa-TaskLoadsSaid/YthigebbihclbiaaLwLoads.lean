/- The law TaskLoads, walked. -/
import Derived.Test.YthigebbihclbiaaLoadW
import Derived.Deep.QuietTactic
namespace Go.Proofs.Ythigebbihclbiaa
open Go.RowKit
set_option maxRecDepth 100000

theorem inside_out (ss : List Station) (st : List Int) (t : Task) : (ableOf ss t.tool).all (fun x => st.contains x) = !outside ss st t := by
  unfold outside
  rw [out_any, Bool.not_not]

set_option maxHeartbeats 4000000 in
theorem law_loads (s : Shop) (st : List Int) (F G : Nat → Prop) (v u : Value) (w : World) (h : ShopAt w F s v) (g : Kd.int.Sl w G st u) :
    Calls Try.prog 6 #[v, u] w fun e w' => e = .returned (.bool true) ∧ Below w.heap.size w w' := by
  obtain ⟨v1, v2, rfl, h1, h2⟩ := h
  have hS := Lib.hid (show ∀ W, Below w.heap.size w W → ShopAt W F s (.agg #[v1, v2]) from fun W hW => ⟨v1, v2, rfl, h1.keep (Agree.below hW), h2.keep (Agree.below hW)⟩)
  have hB := Boxed.start w v1 v2 25
  obtain ⟨A, c, rfl, hc1, hc2, hr⟩ := h1
  obtain ⟨B, d, rfl, _⟩ := h2
  have HG := Lib.hid g
  obtain ⟨X, xc, rfl, hx1, hx2, hxr⟩ := g
  go_enter Try.func6, Try.ntmps6
  go_upto_region 1 with fail
  generalize w.alloc _ = W at *
  go_wp2_with fail
  refine (known_calls W).mono ?_
  rintro e w1 ⟨rfl, hb1⟩
  have hB1 := hB.later hb1
  clear hb1 hB
  have k0 := hB1.c0
  have k1 := hB1.c1
  go_wp2_with fail
  refine (few_calls s F _ w1 (hS.out _ hB1.below)).mono ?_
  rintro e w2 ⟨rfl, hb2⟩
  have hB2 := hB1.later hb2
  clear k0 k1 hb2 hB1
  cases hfa : fewOf s with
  | false =>
    go_wp2_with fail
    refine (known_calls w2).mono ?_
    rintro e w3 ⟨rfl, hb3⟩
    go_wp2_with fail
    go_ret
    exact ⟨rfl, (hB2.later hb3).below⟩
  | true =>
    clear hfa
    have k0 := hB2.c0
    have k1 := hB2.c1
    go_wp2_with fail
    refine (law_check s F _ w2 (hS.out _ hB2.below)).mono ?_
    rintro e w3 ⟨rfl, hb3⟩
    have hB3 := hB2.later hb3
    clear k0 k1 hb3 hB2
    by_cases hc : checkOf s = 0
    · by_cases hxl : 6 < st.length
      · have q1 : decide ((6 : Int) < (st.length : Int)) = true := decide_eq_true (by omega)
        rw [hc]
        go_wp2_with fail
        refine (known_calls w3).mono ?_
        rintro e w4 ⟨rfl, hb4⟩
        go_wp2_with fail
        go_ret
        exact ⟨rfl, (hB3.later hb4).below⟩
      have q1 : decide ((6 : Int) < (st.length : Int)) = false := decide_eq_false (by omega)
      have hld := task_load s st F G _ _ w3 (hS.out _ hB3.below) (HG.out.keep (Agree.below hB3.below)) hc (by omega)
      obtain ⟨l1, l2, Z, _⟩ := zero_of_check s hc
      have HDU := Lib.hid (durs_of _ Z)
      have HE := Lib.hid (show loadErr s st = if st.length = 0 then 7 else afterErr s.stations.length (-1) none st from rfl)
      have HO := Lib.hid (show loadOf s st = if loadErr s st = 0 then (loadSum s.stations st s.tasks + st.length - 1) / st.length else 0 from rfl)
      generalize loadErr s st = E at *
      generalize loadOf s st = R at *
      rw [hc]
      clear hc Z
      have k0 := hB3.c0
      have k1 := hB3.c1
      go_wp2_with fail
      refine hld.mono ?_
      rintro e w4 ⟨rfl, hb4⟩
      have hB4 := hB3.later hb4
      clear k0 k1 hb4 hB3 hld q1
      have l3 : st.length ≤ 6 := by omega
      by_cases hz : st.length = 0
      · have hE : E = 7 := by rw [HE.out, if_pos hz]
        have hR : R = 0 := by rw [HO.out, hE]; rfl
        subst hE
        subst hR
        have gz : ((st.length : Int) == 0) = true := by simpa using hz
        have gz2 : ¬ (0 : Int) < (st.length : Int) := by omega
        have gz3 : ¬ 0 < st.length := by omega
        have gz4 : decide (0 < st.length) = false := decide_eq_false gz3
        have gz5 : decide ((0 : Int) < (st.length : Int)) = false := decide_eq_false gz2
        clear hz HE HO
        go_wp2_with fail
        go_loopw [7, 8] (fun i7 i8 wr => i7 = .int .i64 7 ∧ i8 = .int .i64 0 ∧ wr = w4) (fun _ _ _ => 0)
        case atStart => exact ⟨rfl, rfl, rfl⟩
        case round =>
          obtain ⟨rfl, rfl, rfl⟩ := hrel
          go_wp2_with fail
          go_ret
          exact ⟨rfl, hB4.below⟩
      have HE2 := Lib.hid (show E = afterErr s.stations.length (-1) none st by rw [HE.out, if_neg hz])
      have gz : ((st.length : Int) == 0) = false := by simpa using hz
      have hz0 : 0 < st.length := by omega
      clear hz HE
      go_wp2_with fail
      clear gz
      go_loopw [7, 8] (fun i7 i8 wr => ∃ (k : Nat) (q : Int), k ≤ st.length ∧ i8 = .int .i64 k ∧ i7 = .int .i64 q ∧ Drawn w4 wr ∧ ((q = 0 ∧ Hid (E = afterErr s.stations.length (-1) (prevOf st k) (st.drop k))) ∨ (q ≠ 0 ∧ q = E))) (fun _ i8 _ => st.length - (intOf i8).toNat)
      case atStart => exact ⟨0, 0, Nat.zero_le _, rfl, rfl, Drawn.refl _, .inl ⟨rfl, Lib.hid HE2.out⟩⟩
      case round =>
        obtain ⟨k, q, hk, rfl, rfl, hd, hq⟩ := hrel
        have hBr := hB4.later (hd.below _)
        have k1 := hBr.c1
        rcases hq with ⟨rfl, H⟩ | ⟨hq0, rfl⟩
        · by_cases hlt : k < st.length
          · have hxr1 := hxr.keep (Agree.below hBr.below)
            obtain ⟨b5, o5, rfl, _, _, c0⟩ := int_at hxr1 k hlt
            have hlt' : (k : Int) < (st.length : Int) := by omega
            have hprev : 0 < k → ∃ y, wr.cell? ⟨b5, o5 + (k - 1), none⟩ = some (.int .i64 y) ∧ afterErr s.stations.length (-1) (prevOf st k) (st.drop k) = if st[k] < 0 ∨ (s.stations.length : Int) ≤ st[k] then 2 else if st[k] = -1 then 17 else if st[k] ≤ y then 8 else afterErr s.stations.length (-1) (prevOf st (k+1)) (st.drop (k+1)) := fun h0 => by
              obtain ⟨b6, o6, he6, _, _, p1⟩ := int_at hxr1 (k - 1) (by omega)
              obtain ⟨rfl, rfl⟩ : b5 = b6 ∧ o5 = o6 := by simpa using he6
              refine ⟨st[k-1], p1, ?_⟩
              obtain ⟨j, rfl⟩ : ∃ j, k = j + 1 := ⟨k - 1, by omega⟩
              rw [after_step s.stations.length (-1) st j hlt]
              simp [show j < st.length by omega]
            have hfirst : k = 0 → afterErr s.stations.length (-1) (prevOf st k) (st.drop k) = if st[k] < 0 ∨ (s.stations.length : Int) ≤ st[k] then 2 else if st[k] = -1 then 17 else afterErr s.stations.length (-1) (prevOf st (k+1)) (st.drop (k+1)) := fun h0 => after_zero s.stations.length (-1) st k h0 hlt
            clear hxr1
            generalize st[k] = x at *
            by_cases hx : x < 0 ∨ (s.stations.length : Int) ≤ x
            · have hE : E = 2 := by
                rw [H.out]
                rcases Nat.eq_zero_or_pos k with h0 | h0
                · rw [hfirst h0, if_pos hx]
                · obtain ⟨y, _, e⟩ := hprev h0
                  rw [e, if_pos hx]
              have HE3 := Lib.hid hE
              clear hprev hfirst hE
              by_cases hx0 : x < 0
              · have g1 : decide (x < 0) = true := decide_eq_true hx0
                clear hx
                go_wp2_with fail
                go_quiet (fail)
                go_wp2_with fail
                go_roundw
                case rel => exact ⟨k+1, 2, by omega, by go_num, rfl, hd.step _, .inr ⟨by decide, HE3.out.symm⟩⟩
                case measure => simp [intOf]; omega
              · have g1 : decide (x < 0) = false := decide_eq_false hx0
                have g2 : decide ((s.stations.length : Int) ≤ x) = true := decide_eq_true (by omega)
                clear hx
                go_wp2_with fail
                go_quiet (fail)
                go_wp2_with fail
                go_roundw
                case rel => exact ⟨k+1, 2, by omega, by go_num, rfl, hd.step _, .inr ⟨by decide, HE3.out.symm⟩⟩
                case measure => simp [intOf]; omega
            · have g1 : decide (x < 0) = false := decide_eq_false (by omega)
              have g2 : decide ((s.stations.length : Int) ≤ x) = false := decide_eq_false (by omega)
              have hx17 : ¬ x = -1 := by omega
              rcases Nat.eq_zero_or_pos k with h0 | h0
              · have HN := Lib.hid (hfirst h0)
                have HX := Lib.hid hx
                have HX17 := Lib.hid hx17
                have g3 : ¬ 0 < k := by omega
                have g4 : decide (0 < k) = false := decide_eq_false g3
                have g5 : decide ((0 : Int) < (k : Int)) = false := decide_eq_false (by omega)
                clear hprev hfirst hx hx17 h0
                go_wp2_with fail
                go_quiet (fail)
                go_wp2_with fail
                go_quiet (fail)
                go_wp2_with fail
                go_roundw
                case rel => exact ⟨k+1, 0, by omega, by go_num, rfl, hd.step _, .inl ⟨rfl, Lib.hid (by rw [H.out, HN.out, if_neg HX.out, if_neg HX17.out])⟩⟩
                case measure => simp [intOf]; omega
              · obtain ⟨y, p1, e⟩ := hprev h0
                have HN := Lib.hid e
                have HX := Lib.hid hx
                have HX17 := Lib.hid hx17
                have g4 : decide (0 < k) = true := decide_eq_true h0
                have g5 : decide ((0 : Int) < (k : Int)) = true := decide_eq_true (by omega)
                have hkl : k - 1 < st.length := by omega
                clear hprev hfirst hx hx17 e
                by_cases hxy : x ≤ y
                · have HE3 := Lib.hid (show E = 8 by rw [H.out, HN.out, if_neg HX.out, if_neg HX17.out, if_pos hxy])
                  have g6 : decide (x ≤ y) = true := decide_eq_true hxy
                  clear hxy
                  go_wp2_with fail
                  go_quiet (fail)
                  go_wp2_with fail
                  go_quiet (fail)
                  go_wp2_with fail
                  go_roundw
                  case rel => exact ⟨k+1, 8, by omega, by go_num, rfl, hd.step _, .inr ⟨by decide, HE3.out.symm⟩⟩
                  case measure => simp [intOf]; omega
                · have g6 : decide (x ≤ y) = false := decide_eq_false hxy
                  have HXY := Lib.hid hxy
                  clear hxy
                  go_wp2_with fail
                  go_quiet (fail)
                  go_wp2_with fail
                  go_quiet (fail)
                  go_wp2_with fail
                  go_roundw
                  case rel => exact ⟨k+1, 0, by omega, by go_num, rfl, hd.step _, .inl ⟨rfl, Lib.hid (by rw [H.out, HN.out, if_neg HX.out, if_neg HX17.out, if_neg (by have := HXY.out; omega)])⟩⟩
                  case measure => simp [intOf]; omega
          · have hE : E = 0 := by rw [H.out, List.drop_of_length_le (by omega)]; cases k <;> rfl
            have HR := Lib.hid (show R = (loadSum s.stations st s.tasks + st.length - 1) / st.length by rw [HO.out, if_pos hE])
            subst hE
            clear k1
            obtain ⟨w5, rfl⟩ : ∃ w5 : World, w5 = wr := ⟨_, rfl⟩
            go_wp2_with fail
            go_loopw [9, 10, 11, 13] (fun i9 i10 _ _ wr => ∃ k : Nat, k ≤ s.tasks.length ∧ i10 = .int .i64 k ∧ i9 = .int .i64 (loadSum s.stations st (s.tasks.take k)) ∧ Boxed w wr (.slice A s.tasks.length c) (.slice B s.stations.length d)) (fun _ i10 _ _ _ => s.tasks.length - (intOf i10).toNat)
            case atStart => exact ⟨0, Nat.zero_le _, rfl, rfl, hBr⟩
            case round =>
              clear hBr
              obtain ⟨k2, hk2, rfl, rfl, hB⟩ := hrel
              have hbd := loadSum_bd s.stations st (s.tasks.take k2) (fun t ht => HDU.out t (List.mem_of_mem_take ht))
              have htl : (s.tasks.take k2).length ≤ 24 := by rw [List.length_take]; omega
              have d1 : 0 ≤ loadSum s.stations st (s.tasks.take k2) := hbd.1
              have d2 : loadSum s.stations st (s.tasks.take k2) ≤ 25165824 := by have := hbd.2; omega
              clear hbd htl
              have k0 := hB.c0
              have k1 := hB.c1
              by_cases hlt2 : k2 < s.tasks.length
              · have hab := law_able s F _ wr k2 (hS.out wr hB.below) hlt2 (by omega)
                obtain ⟨b, oo, A1, a1, rfl, _, hl1, _, cw1, _, _, _⟩ := task_at hr k2 hlt2
                have HIO := Lib.hid (inside_out s.stations st s.tasks[k2])
                have hlt2' : (k2 : Int) < (s.tasks.length : Int) := by omega
                have HSN : Hid (loadSum s.stations st (s.tasks.take (k2+1)) = loadSum s.stations st (s.tasks.take k2) + (if outside s.stations st s.tasks[k2] = true then 0 else s.tasks[k2].dur)) := Lib.hid (by rw [take_succ_at _ _ hlt2, loadSum_snoc])
                have hdt := HDU.out _ (List.getElem_mem hlt2)
                generalize s.tasks[k2] = t at *
                generalize loadSum s.stations st (s.tasks.take k2) = S at *
                generalize ableOf s.stations t.tool = l at *
                have e1 : 1 ≤ t.dur := hdt.1
                have e2 : t.dur ≤ 1048576 := hdt.2
                clear hdt
                go_wp2_with fail
                refine hab.mono ?_
                rintro e w6 ⟨lv, rfl, hlo, hb6⟩
                have hB6 := hB.later hb6
                obtain ⟨lA, lc, rfl, _⟩ := hlo.slice
                obtain ⟨_, _, hle, _, _, hlr⟩ := hlo.sl
                obtain ⟨rfl, -, -⟩ := Value.slice.inj hle
                have hst6 := HG.out.keep (Agree.below hB6.below)
                clear hab hb6 hB k0 k1 hle hlo
                go_wp2_with fail
                go_loopw [11, 13, 100] (fun i11 _ i100 wr => ∃ j : Nat, j ≤ l.length ∧ i100 = .int .i64 j ∧ i11 = .bool ((l.take j).all (fun x => st.contains x)) ∧ wr = w6) (fun _ _ i100 _ => l.length - (intOf i100).toNat)
                case atStart => exact ⟨0, Nat.zero_le _, rfl, rfl, rfl⟩
                case round =>
                  obtain ⟨j, hj, rfl, rfl, rfl⟩ := hrel
                  by_cases hjl : j < l.length
                  · obtain ⟨b7, o7, rfl, _, _, cj⟩ := int_at hlr j hjl
                    have hjl' : (j : Int) < (l.length : Int) := by omega
                    have HTK : Hid ((l.take (j+1)).all (fun x => st.contains x) = ((l.take j).all (fun x => st.contains x) && st.contains l[j])) := Lib.hid (by rw [take_succ_at l j hjl, List.all_append]; simp)
                    generalize l[j] = x at *
                    have hcall := law_has (.slice X st.length xc) G st x wr hst6
                    generalize (l.take j).all (fun x => st.contains x) = p at *
                    generalize st.contains x = q at *
                    cases p with
                    | true =>
                      go_wp2_with (refine hcall.mono ?_; rintro e' w' ⟨rfl, rfl⟩)
                      go_roundw
                      case rel => exact ⟨j+1, by omega, by go_num, by rw [HTK.out]; simp, by first | trivial | rfl⟩
                      case measure => simp [intOf]; omega
                    | false =>
                      go_wp2_with fail
                      go_roundw
                      case rel => exact ⟨j+1, by omega, by go_num, by rw [HTK.out]; simp, by first | trivial | rfl⟩
                      case measure => simp [intOf]; omega
                  · have hall : (l.take j).all (fun x => st.contains x) = !outside s.stations st t := by rw [List.take_of_length_le (by omega), HIO.out]
                    rw [hall]
                    clear hall HIO
                    have k0 := hB6.c0
                    have c1 := (hB6.below.cell (p := ⟨b, oo + k2 * 4 + 1, none⟩) hl1).trans cw1
                    obtain ⟨w7, rfl⟩ : ∃ w7 : World, w7 = wr := ⟨_, rfl⟩
                    cases hou : outside s.stations st t with
                    | true =>
                      go_wp2_with fail
                      go_roundw
                      case rel => exact ⟨k2+1, by omega, by go_num, by rw [HSN.out, hou]; simp, hB6⟩
                      case measure => simp [intOf]; omega
                    | false =>
                      go_wp2_with fail
                      go_roundw
                      case rel => exact ⟨k2+1, by omega, by go_num, by rw [HSN.out, hou]; rfl, hB6⟩
                      case measure => simp [intOf]; omega
              · have hR : R = (loadSum s.stations st (s.tasks.take k2) + st.length - 1) / st.length := by rw [HR.out, List.take_of_length_le (by omega)]
                generalize loadSum s.stations st (s.tasks.take k2) = S at *
                subst hR
                go_wp2_with fail
                go_ret
                exact ⟨by simp, hB.below⟩
        · have hR : R = 0 := by rw [HO.out, if_neg hq0]
          subst hR
          have gq : (q == 0) = false := by simpa using hq0
          have gq2 : (q != 0) = true := by simpa using hq0
          have gq3 : (q == q) = true := by simp
          clear hq0
          by_cases hlt : k < st.length
          · have hlt' : (k : Int) < (st.length : Int) := by omega
            go_wp2_with fail
            go_ret
            exact ⟨rfl, hBr.below⟩
          · have g1 : ¬ (k : Int) < (st.length : Int) := by omega
            go_wp2_with fail
            go_ret
            exact ⟨rfl, hBr.below⟩
    · have ge : (checkOf s != 0) = true := by simpa using hc
      go_wp2_with fail
      refine (known_calls w3).mono ?_
      rintro e w4 ⟨rfl, hb4⟩
      go_wp2_with fail
      go_ret
      exact ⟨rfl, (hB3.later hb4).below⟩
end Go.Proofs.Ythigebbihclbiaa
