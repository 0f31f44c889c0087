/- The law TaskKeeps, walked. -/
import Derived.Test.YthigebbihclbiaaKeepsP
import Derived.Test.YthigebbihclbiaaLawBef
import Derived.Test.YthigebbihclbiaaErrs
import Derived.Deep.QuietTactic
namespace Go.Proofs.Ythigebbihclbiaa
open Go.RowKit
set_option maxRecDepth 100000

theorem red_after_len (ts : List Task) (h : ∀ t ∈ ts, t.after.length ≤ 1000000) : ∀ t ∈ ts.map (redTask ts), t.after.length ≤ 1000000 := fun t ht => by
  obtain ⟨t0, h0, rfl⟩ := List.mem_map.1 ht
  exact Nat.le_trans (List.length_filter_le _ _) (h t0 h0)

set_option maxHeartbeats 4000000 in
theorem law_keeps (s : Shop) (F : Nat → Prop) (v : Value) (w : World) (h : ShopAt w F s v) :
    Calls Try.prog 8 #[v] w fun e w' => e = .returned (.bool true) ∧ Below w.heap.size w w' := by
  obtain ⟨v1, v2, rfl, h1, h2⟩ := h
  have hS := Lib.hid (show ∀ W, Below w.heap.size w W → ShopAt W F s (.agg #[v1, v2]) from fun W hW => ⟨v1, v2, rfl, h1.keep (Agree.below hW), h2.keep (Agree.below hW)⟩)
  have hB := Boxed.start w v1 v2 25
  obtain ⟨A, c, rfl, hc1, hc2, hr⟩ := h1
  obtain ⟨B, d, rfl, _⟩ := h2
  go_enter Try.func8, Try.ntmps8
  go_upto_region 1 with fail
  generalize w.alloc _ = W at *
  go_wp2_with fail
  refine (known_calls W).mono ?_
  rintro e w1 ⟨rfl, hb1⟩
  have hB1 := hB.later hb1
  clear hb1 hB
  have k0 := hB1.c0
  have k1 := hB1.c1
  go_wp2_with fail
  refine (few_calls s F _ w1 (hS.out _ hB1.below)).mono ?_
  rintro e w2 ⟨rfl, hb2⟩
  have hB2 := hB1.later hb2
  clear k0 k1 hb2 hB1
  cases hfa : fewOf s with
  | false =>
    go_wp2_with fail
    refine (known_calls w2).mono ?_
    rintro e w3 ⟨rfl, hb3⟩
    go_wp2_with fail
    go_ret
    exact ⟨rfl, (hB2.later hb3).below⟩
  | true =>
    have HF := Lib.hid hfa
    clear hfa
    have k0 := hB2.c0
    have k1 := hB2.c1
    go_wp2_with fail
    refine (law_check s F _ w2 (hS.out _ hB2.below)).mono ?_
    rintro e w3 ⟨rfl, hb3⟩
    have hB3 := hB2.later hb3
    clear k0 k1 hb3 hB2
    by_cases hc : checkOf s = 0
    · obtain ⟨l1, l2, Z, hnl, _⟩ := zero_of_check s hc
      have hok := afterOk_of _ Z
      have hlen : (orderOf s.tasks).length = s.tasks.length := by have := orderOf_len s.tasks; omega
      have hc2' := red_check hc
      have hrr : reduceOf (reduceOf s) = reduceOf s := red_reduce hc
      have hS' : reduceOf s = ⟨s.tasks.map (redTask s.tasks), s.stations⟩ := rfl
      have hfew := HF.out
      unfold fewOf at hfew
      simp only [Bool.and_eq_true, List.all_eq_true, fewTask, fewStation, decide_eq_true_eq] at hfew
      have hal : ∀ t ∈ s.tasks, t.after.length ≤ 1000000 := fun t ht => by have := (hfew.2.1 t ht).1; omega
      have htl : ∀ x ∈ s.stations, x.tools.length ≤ 1000000 := fun x hx => by have := (hfew.2.2 x hx).1; omega
      have Hrd := Lib.hid (fun W hW => show Calls Try.prog 17 _ W (RetS ⟨s.tasks.map (redTask s.tasks), s.stations⟩ 0 W) from by
        have := task_reduce s F _ W (hS.out W hW) hal htl
        rwa [show reducePub s = ⟨s.tasks.map (redTask s.tasks), s.stations⟩ from if_pos hc, hc] at this)
      have Hrd2 := Lib.hid (fun W G u (hu : ShopAt W G ⟨s.tasks.map (redTask s.tasks), s.stations⟩ u) => show Calls Try.prog 17 #[u] W (RetS ⟨s.tasks.map (redTask s.tasks), s.stations⟩ 0 W) from by
        have := task_reduce (reduceOf s) G _ W hu (red_after_len _ hal) htl
        rwa [show reducePub (reduceOf s) = reduceOf s from (if_pos hc2').trans hrr, hc2', hS'] at this)
      have Hbe := Lib.hid (fun W hW => task_before s F _ W (hS.out W hW) hc)
      have Hbe2 := Lib.hid (fun W G u (hu : ShopAt W G ⟨s.tasks.map (redTask s.tasks), s.stations⟩ u) => show Calls Try.prog 26 #[u] W (RetLL (befLists s.tasks) 0 W) from by
        have := task_before (reduceOf s) G _ W hu hc2'
        rwa [show befLists (reduceOf s).tasks = befLists s.tasks from red_lists hok hlen] at this)
      have Hcr := Lib.hid (fun W hW => show Calls Try.prog 16 _ W (RetC (critLen s) (critPath s) 0 W) from by
        have := task_critical s F _ W (hS.out W hW)
        rwa [hc] at this)
      have Hcr2 := Lib.hid (fun W G u (hu : ShopAt W G ⟨s.tasks.map (redTask s.tasks), s.stations⟩ u) => show Calls Try.prog 16 #[u] W (RetC (critLen s) (critPath (reduceOf s)) 0 W) from by
        have := task_critical (reduceOf s) G _ W hu
        rwa [red_crit hc, hc2'] at this)
      have Hor := Lib.hid (fun W hW => show Calls Try.prog 25 _ W (RetL (orderOf s.tasks) 0 W) from by
        have := task_order s F _ W (hS.out W hW)
        rwa [show orderPub s = orderOf s.tasks from if_pos hc, hc] at this)
      have hbl : (befLists s.tasks).length = s.tasks.length := by simp [befLists]
      have HBL := Lib.hid (fun k (hk : k < (befLists s.tasks).length) => show (befLists s.tasks)[k] = truesUpto (befAt s.tasks k) s.tasks.length by simp [befLists])
      have HOM := Lib.hid (orderOf_mem s.tasks)
      have HAS := Lib.hid (fun x (hx : x < (orderOf s.tasks).length) (i : Nat) (hi : (orderOf s.tasks)[x] = (i : Int)) (hin : i < s.tasks.length) (y : Int) (hy : y ∈ truesUpto (befAt s.tasks i) s.tasks.length) => order_has hc hx hi hin hy)
      rw [hc]
      clear hc hok hc2' hrr hS' hfew hal htl HF Z hnl
      generalize orderOf s.tasks = ol at *
      generalize befLists s.tasks = bl at *
      generalize critLen s = M at *
      generalize critPath s = P at *
      generalize critPath (reduceOf s) = P2 at *
      generalize s.tasks.map (redTask s.tasks) = RT at *
      have gM : (M != M) = false := by simp
      have gbb : ((bl.length : Int) != (bl.length : Int)) = false := by simp
      have gbl : ((bl.length : Int) != (s.tasks.length : Int)) = false := by rw [hbl]; simp
      have gol : ((ol.length : Int) != (s.tasks.length : Int)) = false := by rw [hlen]; simp
      have HL := Lib.hid hlen
      have HLB := Lib.hid hbl
      clear hlen hbl
      have k0 := hB3.c0
      have k1 := hB3.c1
      go_wp2_with fail
      refine (Hrd.out _ hB3.below).mono ?_
      rintro e wa ⟨rv, rfl, ⟨x1, x2, rfl, hX1, hX2⟩, hba⟩
      obtain ⟨rA, rc, rfl, _⟩ := id hX1
      obtain ⟨rB, rd, rfl, _⟩ := id hX2
      have hBa := hB3.later hba
      clear k0 k1 hba hB3 Hrd
      simp only at hX1 hX2 ⊢
      have HSR := Lib.hid (fun W (hW : Below wa.heap.size wa W) => show ShopAt W (fun b => w3.heap.size ≤ b) ⟨RT, s.stations⟩ (.agg #[.slice rA RT.length rc, .slice rB s.stations.length rd]) from ⟨_, _, rfl, hX1.keep (Agree.below hW), hX2.keep (Agree.below hW)⟩)
      have k0 := hBa.c0
      have k1 := hBa.c1
      go_upto_region 4 with fail
      have hC := Boxed.start wa (.slice rA RT.length rc) (.slice rB s.stations.length rd) 25
      have hBb := hBa.later (below_one wa (.cells #[.slice rA RT.length rc, .slice rB s.stations.length rd] 25))
      generalize wa.alloc (.cells #[.slice rA RT.length rc, .slice rB s.stations.length rd] 25) = wb at *
      clear k0 k1 hBa hX1 hX2
      have r0 := hC.c0
      have r1 := hC.c1
      go_wp2_with fail
      refine (Hrd2.out _ _ _ (HSR.out _ hC.below)).mono ?_
      rintro e wd ⟨rv, rfl, ⟨x1, x2, rfl, hX1, hX2⟩, hbd⟩
      obtain ⟨sA, sc, rfl, _⟩ := id hX1
      obtain ⟨sB, sd, rfl, _⟩ := id hX2
      have hBd := hBb.later hbd
      have hCd := hC.later hbd
      clear r0 r1 hbd hC hBb Hrd2
      simp only at hX1 hX2 ⊢
      have HSA := Lib.hid (fun W (hW : Below wd.heap.size wd W) => show ShopAt W (fun b => wb.heap.size ≤ b) ⟨RT, s.stations⟩ (.agg #[.slice sA RT.length sc, .slice sB s.stations.length sd]) from ⟨_, _, rfl, hX1.keep (Agree.below hW), hX2.keep (Agree.below hW)⟩)
      have k0 := hBd.c0
      have k1 := hBd.c1
      go_upto_region 5 with fail
      have hD := Boxed.start wd (.slice sA RT.length sc) (.slice sB s.stations.length sd) 25
      have hbe := below_one wd (.cells #[.slice sA RT.length sc, .slice sB s.stations.length sd] 25)
      have hBe := hBd.later hbe
      have hCe := hCd.later hbe
      generalize wd.alloc (.cells #[.slice sA RT.length sc, .slice sB s.stations.length sd] 25) = we at *
      clear k0 k1 hBd hCd hX1 hX2 hbe
      have k0 := hBe.c0
      have k1 := hBe.c1
      go_wp2_with fail
      refine (Hbe.out _ hBe.below).mono ?_
      rintro e wf ⟨av, rfl, hav, hb⟩
      obtain ⟨aA, ac, rfl, _⟩ := id hav
      have hBf := hBe.later hb
      have hCf := hCe.later hb
      have hDf := hD.later hb
      clear k0 k1 hb hBe hCe hD Hbe
      have k0 := hCf.c0
      have k1 := hCf.c1
      go_wp2_with fail
      refine (Hbe2.out _ _ _ (HSR.out _ hCf.below)).mono ?_
      rintro e wg ⟨bv, rfl, hbv, hb⟩
      obtain ⟨bA, bc, rfl, _⟩ := id hbv
      have hBg := hBf.later hb
      have hCg := hCf.later hb
      have hDg := hDf.later hb
      replace hav := hav.keep (Agree.below hb)
      clear k0 k1 hb hBf hCf hDf Hbe2
      have k0 := hBg.c0
      have k1 := hBg.c1
      go_wp2_with fail
      refine (Hcr.out _ hBg.below).mono ?_
      rintro e wh ⟨pv, rfl, hpv, hb⟩
      obtain ⟨pA, pc, rfl, _⟩ := id hpv
      have hBh := hBg.later hb
      have hCh := hCg.later hb
      have hDh := hDg.later hb
      replace hav := hav.keep (Agree.below hb)
      replace hbv := hbv.keep (Agree.below hb)
      clear k0 k1 hb hBg hCg hDg Hcr hpv
      have k0 := hCh.c0
      have k1 := hCh.c1
      go_wp2_with fail
      refine (Hcr2.out _ _ _ (HSR.out _ hCh.below)).mono ?_
      rintro e wi ⟨pv, rfl, hpv, hb⟩
      obtain ⟨qA, qc, rfl, _⟩ := id hpv
      have hBi := hBh.later hb
      have hCi := hCh.later hb
      have hDi := hDh.later hb
      replace hav := hav.keep (Agree.below hb)
      replace hbv := hbv.keep (Agree.below hb)
      clear k0 k1 hb hBh hCh hDh Hcr2 hpv
      have k0 := hBi.c0
      have k1 := hBi.c1
      go_wp2_with fail
      refine (Hor.out _ hBi.below).mono ?_
      rintro e wj ⟨ov, rfl, hov, hb⟩
      obtain ⟨oA, oc, rfl, _⟩ := id hov
      have hBj := hBi.later hb
      have hCj := hCi.later hb
      have hDj := hDi.later hb
      replace hav := hav.keep (Agree.below hb)
      replace hbv := hbv.keep (Agree.below hb)
      clear k0 k1 hb hBi hCi hDi Hor
      have k0 := hCj.c0
      have k1 := hCj.c1
      have r0 := hDj.c0
      have r1 := hDj.c1
      have heq := task_equal ⟨RT, s.stations⟩ ⟨RT, s.stations⟩ _ _ _ _ wj (HSR.out _ hCj.below) (HSA.out _ hDj.below)
      rw [eqShop_refl] at heq
      go_wp2_with fail
      refine heq.mono ?_
      rintro e wk ⟨rfl, hb⟩
      have hBk := hBj.later hb
      have HAV := Lib.hid (hav.keep (Agree.below hb))
      have HBV := Lib.hid (hbv.keep (Agree.below hb))
      have HOV := Lib.hid (hov.keep (Agree.below hb))
      clear k0 k1 r0 r1 hb hBj hCj hDj heq hav hbv hov
      have k0 := hBk.c0
      have k1 := hBk.c1
      go_wp2_with fail
      clear k0 k1 gM gbb gbl gol
      go_loopw [19, 21] (fun i19 _ wr => ∃ x : Nat, x ≤ ol.length ∧ i19 = .int .i64 x ∧ Drawn wk wr) (fun i19 _ _ => ol.length - (intOf i19).toNat)
      case atStart => exact ⟨0, Nat.zero_le _, rfl, Drawn.refl _⟩
      case round =>
        obtain ⟨x, hx, rfl, hd⟩ := hrel
        by_cases hlt : x < ol.length
        · have hlt' : (x : Int) < (ol.length : Int) := by omega
          obtain ⟨_, _, heo, hoc4, hoc3, hro⟩ := HOV.out.keep (hd.agree _)
          obtain ⟨rfl, -, rfl⟩ := Value.slice.inj heo
          obtain ⟨bo, oo, rfl, _, hbo, e1⟩ := int_at hro x hlt
          have hxb : x < bl.length := by rw [HLB.out, ← HL.out]; exact hlt
          have hxb' : (x : Int) < (bl.length : Int) := by omega
          obtain ⟨_, _, hea, _, _, hra⟩ := HAV.out.keep (hd.agree _)
          obtain ⟨rfl, -, rfl⟩ := Value.slice.inj hea
          obtain ⟨ba, oa, xA, xc, rfl, _, hba, e2, hrow⟩ := ints_at hra x hxb
          obtain ⟨_, _, heb, _, _, hrb⟩ := HBV.out.keep (hd.agree _)
          obtain ⟨rfl, -, rfl⟩ := Value.slice.inj heb
          obtain ⟨bb, ob, yA, yc, rfl, _, hbb, e3, hrow2⟩ := ints_at hrb x hxb
          obtain ⟨i0, i1⟩ := HOM.out ol[x] (List.getElem_mem _)
          have HAx := Lib.hid (HAS.out x hlt)
          have HTX : Hid (ol.take x = ol.take x) := Lib.hid rfl
          generalize hox : ol[x] = ix at *
          obtain ⟨i, rfl⟩ := Int.eq_ofNat_of_zero_le i0
          have hin : i < bl.length := by rw [HLB.out]; omega
          have hin' : (i : Int) < (bl.length : Int) := by omega
          have HAi := Lib.hid (fun y hy => HAx.out i rfl (by rw [← HLB.out]; exact hin) y hy)
          obtain ⟨_, _, hea2, _, _, hra2⟩ := HAV.out
          obtain ⟨he2a, -, he2b⟩ := Value.slice.inj hea2
          subst he2a he2b
          obtain ⟨ba2, oa2, zA, zc, he4, _, hba2, e4', hrow4⟩ := ints_at hra2 i hin
          have e4 := ((hd.below wk.heap.size).cell (show ba2 < wk.heap.size from hba2)).trans e4'
          clear hra2 hea2 e4'
          obtain ⟨rfl, rfl⟩ : ba = ba2 ∧ oa = oa2 := by simpa using he4
          have HY := Lib.hid (fun y hy => HAi.out y (by rw [← HBL.out i hin]; exact hy))
          generalize bl[i] = Y at *
          generalize bl[x] = X at *
          have hcall := fun n => show Calls Try.prog 19 #[.slice xA X.length xc, .slice yA X.length yc] (wr.drewN n) fun e w' => e = .returned (.bool true) ∧ Drawn (wr.drewN n) w' from by
            have := law_same (.slice xA X.length xc) (.slice yA X.length yc) _ _ X X (wr.drewN n) (hrow.keep ((Drawn.of wr n).agree _)) (hrow2.keep ((Drawn.of wr n).agree _))
            rwa [ieq_refl] at this
          have g1 : decide ((i : Int) < 0) = false := decide_eq_false (by omega)
          have g2 : decide ((bl.length : Int) ≤ (i : Int)) = false := decide_eq_false (by omega)
          have g2n : decide (bl.length ≤ i) = false := decide_eq_false (by omega)
          have g2p : ¬ bl.length ≤ i := by omega
          clear hro hea heb heo he4 hox
          go_wp2_with fail
          go_quiet ((go_at_call 19; exact quiet_first (hcall _)))
          go_wp2_with fail
          clear hcall g1 g2 g2n g2p e2 e3
          obtain ⟨_, _, he5, _, _, hrY⟩ := hrow4
          obtain ⟨rfl, -, rfl⟩ := Value.slice.inj he5
          clear he5
          go_loopw [21, 172] (fun _ i172 wy => ∃ q : Nat, q ≤ Y.length ∧ i172 = .int .i64 q ∧ Drawn wk wy) (fun _ i172 _ => Y.length - (intOf i172).toNat)
          case atStart => exact ⟨0, Nat.zero_le _, rfl, hd.step _⟩
          case round =>
            obtain ⟨q, hq, rfl, hd2⟩ := hrel
            by_cases hlq : q < Y.length
            · have hlq' : (q : Int) < (Y.length : Int) := by omega
              obtain ⟨b5, o5, rfl, _, _, c5⟩ := int_at (hrY.keep (hd2.agree _)) q hlq
              have hm := HY.out Y[q] (List.getElem_mem _)
              generalize Y[q] = y at *
              have hoc1 : (x : Int) ≤ (oc : Int) := by omega
              have hoc2 : x ≤ oc := by omega
              have htk : (ol.take x).length = x := by rw [List.length_take]; omega
              obtain ⟨_, _, heo2, _, _, hor⟩ := HOV.out.keep (hd2.agree _)
              obtain ⟨he2a, -, he2b⟩ := Value.slice.inj heo2
              subst he2a he2b
              have hsl : Kd.int.Sl wr _ (ol.take x) (.slice (some ⟨bo, oo, none⟩) x oc) := ⟨_, _, by rw [htk], by omega, hoc3, hor.take x⟩
              have hcall := has_calls _ _ (ol.take x) y wr hsl
              clear heo2 hor
              rw [hm] at hcall
              clear htk hsl hm
              go_wp2_with (refine hcall.mono ?_; rintro e' w' ⟨rfl, hd3⟩)
              go_roundw
              case rel => exact ⟨q+1, by omega, by go_num, hd2.trans hd3⟩
              case measure => simp [intOf]; omega
            · go_wp2_with fail
              go_roundw
              case rel => exact ⟨x+1, by omega, by go_num, hd2⟩
              case measure => simp [intOf]; omega
        · go_wp2_with fail
          go_ret
          exact ⟨rfl, (hBk.later (hd.below _)).below⟩
    · have ge : (checkOf s != 0) = true := by simpa using hc
      go_wp2_with fail
      refine (known_calls w3).mono ?_
      rintro e w4 ⟨rfl, hb4⟩
      go_wp2_with fail
      go_ret
      exact ⟨rfl, (hB3.later hb4).below⟩
end Go.Proofs.Ythigebbihclbiaa
