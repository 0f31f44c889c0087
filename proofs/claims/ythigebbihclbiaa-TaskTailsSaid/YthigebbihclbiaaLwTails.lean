/- The law TaskTails, walked. -/
import Derived.Test.YthigebbihclbiaaLawCrit
import Derived.Test.YthigebbihclbiaaLawRed
import Derived.Test.YthigebbihclbiaaErrs
import Derived.Test.YthigebbihclbiaaOrdSteps
namespace Go.Proofs.Ythigebbihclbiaa
open Go.RowKit
set_option maxRecDepth 100000

set_option maxHeartbeats 4000000 in
theorem law_tails (s : Shop) (F : Nat → Prop) (v : Value) (w : World) (h : ShopAt w F s v) :
    Calls Try.prog 4 #[v] w fun e w' => e = .returned (.bool true) ∧ Below w.heap.size w w' := by
  obtain ⟨v1, v2, rfl, h1, h2⟩ := h
  have hS := Lib.hid (show ∀ W, Below w.heap.size w W → ShopAt W F s (.agg #[v1, v2]) from fun W hW => ⟨v1, v2, rfl, h1.keep (Agree.below hW), h2.keep (Agree.below hW)⟩)
  have hB := Boxed.start w v1 v2 25
  have HST := Lib.hid h2
  obtain ⟨A, c, rfl, hc1, hc2, hr⟩ := h1
  obtain ⟨B, d, rfl, _⟩ := h2
  go_enter Try.func4, Try.ntmps4
  go_upto_region 1 with fail
  generalize w.alloc _ = W at *
  go_wp2_with fail
  refine (known_calls W).mono ?_
  rintro e w1 ⟨rfl, hb1⟩
  have hB1 := hB.later hb1
  clear hb1 hB
  have k0 := hB1.c0
  have k1 := hB1.c1
  go_wp2_with fail
  refine (few_calls s F _ w1 (hS.out _ hB1.below)).mono ?_
  rintro e w2 ⟨rfl, hb2⟩
  have hB2 := hB1.later hb2
  clear k0 k1 hb2 hB1
  cases hfa : fewOf s with
  | false =>
    go_wp2_with fail
    refine (known_calls w2).mono ?_
    rintro e w3 ⟨rfl, hb3⟩
    go_wp2_with fail
    go_ret
    exact ⟨rfl, (hB2.later hb3).below⟩
  | true =>
    have HF := Lib.hid hfa
    clear hfa
    have k0 := hB2.c0
    have k1 := hB2.c1
    go_wp2_with fail
    refine (law_check s F _ w2 (hS.out _ hB2.below)).mono ?_
    rintro e w3 ⟨rfl, hb3⟩
    have hB3 := hB2.later hb3
    clear k0 k1 hb3 hB2
    by_cases hc : checkOf s = 0
    · have Hrd := Lib.hid (fun W hW => show Calls Try.prog 17 _ W (RetS ⟨s.tasks.map (redTask s.tasks), s.stations⟩ 0 W) from by
        have hf := HF.out
        unfold fewOf at hf
        simp only [Bool.and_eq_true, List.all_eq_true, fewTask, fewStation, decide_eq_true_eq] at hf
        have := task_reduce s F _ W (hS.out W hW) (fun t ht => by have := (hf.2.1 t ht).1; omega) (fun x hx => by have := (hf.2.2 x hx).1; omega)
        rwa [show reducePub s = ⟨s.tasks.map (redTask s.tasks), s.stations⟩ from if_pos hc, hc] at this)
      have hl8 : s.tasks.length ≤ 24 := (zero_of_check s hc).1
      have hcf := crit_facts s hc
      have Htl := task_tails s F _ w3 (hS.out _ hB3.below)
      have Hcr := Lib.hid (fun W hW => task_critical s F _ W (hS.out W hW))
      have Hlc := Lib.hid (fun W hW => law_critical s F _ W (hS.out W hW) hc)
      have Hlr := Lib.hid (fun W hW i hi => law_reduced s F _ W i (hS.out W hW) hc hi)
      have Hlt := Lib.hid (fun W hW k hk => law_tail s hc k hk F _ W (hS.out W hW))
      have HTL := Lib.hid hcf.len
      have gtl : (((tailsPub s).length : Int) != (s.tasks.length : Int)) = false := by rw [hcf.len]; simp
      have grl : (((s.tasks.map (redTask s.tasks)).length : Int) != (s.tasks.length : Int)) = false := by simp
      have HRT : Hid (s.tasks.map (redTask s.tasks) = s.tasks.map (redTask s.tasks)) := Lib.hid rfl
      rw [hc] at Htl Hcr ⊢
      generalize hRTe : s.tasks.map (redTask s.tasks) = RT at Hrd grl
      replace HRT := Lib.hid hRTe
      generalize critLen s = M at *
      generalize critPath s = P at *
      generalize tailsPub s = T at *
      clear hc hcf HF hRTe
      have gM : (M != M) = false := by simp
      have k0 := hB3.c0
      have k1 := hB3.c1
      go_wp2_with fail
      refine Htl.mono ?_
      rintro e w4 ⟨tv, rfl, ⟨tA, tc, rfl, ht1, ht2, htr⟩, hb4⟩
      have hB4 := hB3.later hb4
      clear k0 k1 hb4 hB3 Htl
      have k0 := hB4.c0
      have k1 := hB4.c1
      go_wp2_with fail
      refine (Hcr.out _ hB4.below).mono ?_
      rintro e w5 ⟨pv, rfl, hP, hb5⟩
      obtain ⟨pA, pc, rfl, _⟩ := id hP
      have hB5 := hB4.later hb5
      replace htr := htr.keep (Agree.below hb5)
      clear k0 k1 hb5 hB4 Hcr
      have k0 := hB5.c0
      have k1 := hB5.c1
      go_wp2_with fail
      refine (Hrd.out _ hB5.below).mono ?_
      rintro e w6 ⟨rv, rfl, ⟨x1, x2, rfl, hX1, hX2⟩, hb6⟩
      obtain ⟨rA, rc, rfl, _⟩ := id hX1
      obtain ⟨rB, rd, rfl, _⟩ := id hX2
      have hB6 := hB5.later hb6
      replace htr := htr.keep (Agree.below hb6)
      replace hP := hP.keep (Agree.below hb6)
      clear k0 k1 hb6 hB5 Hrd
      simp only at hX1 hX2 ⊢
      have k0 := hB6.c0
      have k1 := hB6.c1
      go_upto_region 6 with fail
      have hbR := below_one w6 (.cells #[.slice rA RT.length rc, .slice rB s.stations.length rd] 25)
      have r0 : (w6.alloc (.cells #[.slice rA RT.length rc, .slice rB s.stations.length rd] 25)).cell? ⟨w6.heap.size, 0, none⟩ = some (.slice rA RT.length rc) := by go_simp
      have r1 : (w6.alloc (.cells #[.slice rA RT.length rc, .slice rB s.stations.length rd] 25)).cell? ⟨w6.heap.size, 1, none⟩ = some (.slice rB s.stations.length rd) := by go_simp
      have hzR : w6.heap.size < (w6.alloc (.cells #[.slice rA RT.length rc, .slice rB s.stations.length rd] 25)).heap.size := by simp
      have hBR := hB6.later hbR
      replace htr := htr.keep (Agree.below hbR)
      replace hP := hP.keep (Agree.below hbR)
      replace hX1 := hX1.keep (Agree.below hbR)
      replace hX2 := hX2.keep (Agree.below hbR)
      generalize w6.alloc (.cells #[.slice rA RT.length rc, .slice rB s.stations.length rd] 25) = wR at *
      clear k0 k1 hbR hB6
      have k0 := hBR.c0
      have k1 := hBR.c1
      go_wp2_with fail
      refine (Hlc.out _ hBR.below).mono ?_
      rintro e w7 ⟨qv, rfl, hQ, hb7⟩
      obtain ⟨qA, qc, rfl, _⟩ := id hQ
      have hB7 := hBR.later hb7
      replace htr := htr.keep (Agree.below hb7)
      replace hP := hP.keep (Agree.below hb7)
      replace hX1 := hX1.keep (Agree.below hb7)
      replace hX2 := hX2.keep (Agree.below hb7)
      replace r0 := (hb7.cell (show w6.heap.size < _ from hzR)).trans r0
      replace r1 := (hb7.cell (show w6.heap.size < _ from hzR)).trans r1
      replace hzR := Nat.lt_of_lt_of_le hzR hb7.size
      clear k0 k1 hb7 hBR Hlc
      have k0 := hB7.c0
      have k1 := hB7.c1
      have hsm := law_same (.slice pA P.length pc) (.slice qA P.length qc) _ _ P P w7 hP hQ
      rw [ieq_refl] at hsm
      go_wp2_with (refine hsm.mono ?_; rintro e' w8 ⟨rfl, hd⟩; have hB8 := hB7.later (hd.below _); have r08 := ((hd.below w7.heap.size).cell (show w6.heap.size < w7.heap.size from hzR)).trans r0; have r18 := ((hd.below w7.heap.size).cell (show w6.heap.size < w7.heap.size from hzR)).trans r1; clear r0 r1 k0 k1; have k0 := hB8.c0; have k1 := hB8.c1)
      clear k0 k1 hsm gtl grl gM hP hQ
      have k0 := hB8.c0
      have k1 := hB8.c1
      go_upto_region 10 with fail
      have hz8 := (hd.below w7.heap.size).size
      replace htr := htr.keep (hd.agree _)
      replace hX1 := hX1.keep (hd.agree _)
      replace hX2 := hX2.keep (hd.agree _)
      have I0 : BoxInv Kd.task 42 (w8.alloc (.cells #[.slice none 0 0, .slice B s.stations.length d] 25)) (w8.alloc (.cells #[.slice none 0 0, .slice B s.stations.length d] 25)) w8.heap.size 0 1 (.slice none 0 0) (.slice B s.stations.length d) [] (fun _ => False) :=
        ⟨World.grownBy.refl _ _, by simp, by go_simp, by go_simp, by go_simp, by go_simp, Kd.Own.nil _ _ _ _ _, fun _ h => h.elim⟩
      have hb9 := below_one w8 (.cells #[.slice none 0 0, .slice B s.stations.length d] 25)
      have hB9 := hB8.later hb9
      have hz9 : (w8.alloc (.cells #[.slice none 0 0, .slice B s.stations.length d] 25)).heap.size = w8.heap.size + 1 := by simp
      have hz80 := hB8.size
      generalize w8.alloc (.cells #[.slice none 0 0, .slice B s.stations.length d] 25) = W0 at *
      replace hz9 : w8.heap.size < W0.heap.size ∧ W0.heap.size ≤ w8.heap.size + 1 := by omega
      replace hz80 : w.heap.size < w8.heap.size := hz80
      have HW : Hid (∀ wr, Below w8.heap.size W0 wr → Below w8.heap.size w8 wr) := Lib.hid (fun wr h => hb9.trans h)
      clear k0 k1 hB8 hd
      have k0 := hB9.c0
      go_wp2_with fail
      clear k0
      go_loopw [13, 14] (fun i13 _ wr => ∃ (k : Nat) (v : Value) (G : Nat → Prop) (ys : List Task), k ≤ s.tasks.length ∧ i13 = .int .i64 k ∧ BoxInv Kd.task 42 W0 wr w8.heap.size 0 1 v (.slice B s.stations.length d) ys G ∧ Hid (ys = (s.tasks.take k).map (redTask s.tasks))) (fun i13 _ _ => s.tasks.length - (intOf i13).toNat)
      case atStart => exact ⟨0, _, _, _, Nat.zero_le _, rfl, I0, Lib.hid rfl⟩
      case round =>
        clear I0
        obtain ⟨k, v, G, ys, hk, rfl, I, HYS⟩ := hrel
        obtain ⟨vA0, vc0, rfl, _⟩ := I.own.slice
        have hBr := hB9.part I.below (by omega)
        have hbw := hBr.below
        have hzr := I.g.size
        have k0 := hBr.c0
        have k1 := hBr.c1
        by_cases hlt : k < s.tasks.length
        · obtain ⟨b, oo, A1, a1, rfl, _, hl1, cw0, cw1, cw2, cw3, hK⟩ := task_at hr k hlt
          have c0 := (hbw.cell (p := ⟨b, oo + k * 4, none⟩) hl1).trans cw0
          have c1 := (hbw.cell (p := ⟨b, oo + k * 4 + 1, none⟩) hl1).trans cw1
          have c2 := (hbw.cell (p := ⟨b, oo + k * 4 + 2, none⟩) hl1).trans cw2
          have c3 := (hbw.cell (p := ⟨b, oo + k * 4 + 3, none⟩) hl1).trans cw3
          have hlt' : (k : Int) < (s.tasks.length : Int) := by omega
          obtain ⟨n1, n2⟩ := Kd.K_tsize hK
          have HY : Hid ((s.tasks.take (k+1)).map (redTask s.tasks) = ys ++ [redTask s.tasks s.tasks[k]]) := Lib.hid (by rw [take_succ_at _ _ hlt, List.map_append, ← HYS.out]; rfl)
          have Hlr1 := Lib.hid (fun W hW => Hlr.out W hW k hlt)
          have Hlt1 := Lib.hid (fun W hW => Hlt.out W hW k hlt)
          have hkT : k < T.length := by rw [HTL.out]; exact hlt
          obtain ⟨tb, to', rfl, _, htb, t0⟩ := int_at htr k hkT
          have HT0 := Lib.hid t0
          have hgt : geti T (k : Int) = T[k] := by simp [geti, hkT]
          rw [hgt] at Hlt1
          have hkT' : (k : Int) < (T.length : Int) := by omega
          clear hK cw0 cw1 cw2 cw3 t0 hgt
          generalize T[k] = tk at *
          generalize s.tasks[k] = t at *
          obtain ⟨nm, du, tl, al⟩ := t
          simp only at c0 c1 c2 c3 n1 n2 Hlr1
          go_upto_region 14 with fail
          have hwA := below_one wr (.cells #[.string nm, .int .i64 du, .string tl, .slice A1 al.length a1] 42)
          have q0 : (wr.alloc (.cells #[.string nm, .int .i64 du, .string tl, .slice A1 al.length a1] 42)).cell? ⟨wr.heap.size, 0, none⟩ = some (.string nm) := by go_simp
          have q1 : (wr.alloc (.cells #[.string nm, .int .i64 du, .string tl, .slice A1 al.length a1] 42)).cell? ⟨wr.heap.size, 1, none⟩ = some (.int .i64 du) := by go_simp
          have q2 : (wr.alloc (.cells #[.string nm, .int .i64 du, .string tl, .slice A1 al.length a1] 42)).cell? ⟨wr.heap.size, 2, none⟩ = some (.string tl) := by go_simp
          have q3 : (wr.alloc (.cells #[.string nm, .int .i64 du, .string tl, .slice A1 al.length a1] 42)).cell? ⟨wr.heap.size, 3, none⟩ = some (.slice A1 al.length a1) := by go_simp
          have qf : (wr.alloc (.cells #[.string nm, .int .i64 du, .string tl, .slice A1 al.length a1] 42)).frozen? ⟨wr.heap.size, 3, none⟩ = false := by go_simp
          have hsA : (wr.alloc (.cells #[.string nm, .int .i64 du, .string tl, .slice A1 al.length a1] 42)).heap.size = wr.heap.size + 1 := by simp
          have hBA := hBr.later hwA
          generalize wr.alloc (.cells #[.string nm, .int .i64 du, .string tl, .slice A1 al.length a1] 42) = wA at *
          clear c0 c1 c2 c3 k0 k1
          have k0 := hBA.c0
          have k1 := hBA.c1
          go_wp2_with fail
          refine (Hlr1.out wA hBA.below).mono ?_
          rintro e w3 ⟨vd, rfl, ho4, hb3⟩
          clear k0 k1
          have hz3 := hb3.size
          replace q0 := (hb3.cell (show wr.heap.size < _ by omega)).trans q0
          replace q1 := (hb3.cell (show wr.heap.size < _ by omega)).trans q1
          replace q2 := (hb3.cell (show wr.heap.size < _ by omega)).trans q2
          replace q3 := (hb3.cell (show wr.heap.size < _ by omega)).trans q3
          replace qf := (hb3.frozen (show wr.heap.size < _ by omega)).trans qf
          have hW4 : Below wr.heap.size wr w3 := hwA.trans (hb3.mono (by omega))
          have hdb : ∀ j, vd.ownBlock = some j → wr.heap.size < j ∧ j < w3.heap.size := fun j hj => by have := ho4.lt j hj; omega
          obtain ⟨dA, dc, rfl, _⟩ := ho4.slice
          generalize hRA : redAfter s.tasks al = ra at *
          go_upto_region 15 with fail
          have gs : w3.grownBy (w3.setCell ⟨wr.heap.size, 3, none⟩ (.slice dA ra.length dc)) (some wr.heap.size) := ⟨rfl, rfl, rfl, by simp [World.setCell], fun k _ hk => Below.heap_setCell _ _ _ _ (fun e => hk (by rw [e]))⟩
          have r0 : (w3.setCell ⟨wr.heap.size, 3, none⟩ (.slice dA ra.length dc)).cell? ⟨wr.heap.size, 0, none⟩ = some (.string nm) := by rw [World.cell?_setCell_other _ _ _ _ (by intro x; injection x with _ x _; exact absurd x (by decide))]; exact q0
          have r1 : (w3.setCell ⟨wr.heap.size, 3, none⟩ (.slice dA ra.length dc)).cell? ⟨wr.heap.size, 1, none⟩ = some (.int .i64 du) := by rw [World.cell?_setCell_other _ _ _ _ (by intro x; injection x with _ x _; exact absurd x (by decide))]; exact q1
          have r2 : (w3.setCell ⟨wr.heap.size, 3, none⟩ (.slice dA ra.length dc)).cell? ⟨wr.heap.size, 2, none⟩ = some (.string tl) := by rw [World.cell?_setCell_other _ _ _ _ (by intro x; injection x with _ x _; exact absurd x (by decide))]; exact q2
          have r3 : (w3.setCell ⟨wr.heap.size, 3, none⟩ (.slice dA ra.length dc)).cell? ⟨wr.heap.size, 3, none⟩ = some (.slice dA ra.length dc) := by rw [World.cell?_setCell_same w3 _ _ (by rw [q3])]
          have hb5 : Below wr.heap.size wr (w3.setCell ⟨wr.heap.size, 3, none⟩ (.slice dA ra.length dc)) := hW4.setCell (Nat.le_refl _) _
          have ho5 := ho4.grown gs (by
            cases e : (Value.slice dA ra.length dc).ownBlock with
            | none => exact .inl rfl
            | some j => exact .inr (fun x => by have : wr.heap.size < j := (hdb j e).1; have := Option.some.inj x; omega)) (fun _ hb => hb.elim)
          have hz5 : (w3.setCell ⟨wr.heap.size, 3, none⟩ (.slice dA ra.length dc)).heap.size = w3.heap.size := by simp [World.setCell]
          generalize w3.setCell ⟨wr.heap.size, 3, none⟩ (.slice dA ra.length dc) = w5 at *
          replace hz5 : w3.heap.size ≤ w5.heap.size := by omega
          clear gs q0 q1 q2 q3 qf ho4 hW4 hb3 hwA
          have I5 := I.later hb5
          have hF5 : ∀ j, (G j ∨ (Value.slice dA ra.length dc).ownBlock = some j) → W0.heap.size ≤ j ∧ j < w5.heap.size := fun j hj => by
            rcases hj with hj | hj
            · exact I5.flo j hj
            · have := hdb j hj; omega
          have hK5 : Kd.task.K w5 (fun j => G j ∨ (Value.slice dA ra.length dc).ownBlock = some j) (redTask s.tasks ⟨nm, du, tl, al⟩) (#[Value.string nm, .int .i64 du, .string tl, .slice dA ra.length dc] : Array Value).toList :=
            Kd.K_task.2 ⟨_, rfl, n1, n2, by show Kd.int.Sl _ _ (redAfter s.tasks al) _; rw [hRA]; exact ho5.sl.mono (by decide) (fun j hj _ => hj.elim (fun h => h.elim) (fun h => .inr h))⟩
          have hO5 := I5.own.more (F' := fun j => G j ∨ (Value.slice dA ra.length dc).ownBlock = some j) (fun j hj => .inl hj) (fun j hj e => by
            rcases hj with hj | hj
            · obtain ⟨_, _, _, h3⟩ := I5.own
              exact h3 j hj e
            · have := hdb j hj; have := (I.own.lt j e).2; omega)
          have hol : (ys.length + 1) * 64 ≤ 140737488355328 := by rw [HYS.out]; simp; omega
          have t1 := I5.c
          have t2 := I5.f
          have hT5 : w8.heap.size < w5.heap.size := by omega
          go_wp2_with (at_builtin; go_must (refine Kd.app_at Kd.task W0.heap.size _ rfl (.tmp 107) (.tmp 109) 22 42 _ 64 rfl Try.underlying22 task_info rfl (by decide) (by omega) (.slice vA0 ys.length vc0) ys (redTask s.tasks ⟨nm, du, tl, al⟩) #[Value.string nm, .int .i64 du, .string tl, .slice dA ra.length dc] rfl _ rfl rfl hK5 hO5 I5.g.size (fun j hj => (hF5 j hj).2) hol ?_; intro v1 w10 ho6 hg6 hat6; obtain ⟨nA, nc, rfl, _⟩ := ho6.slice; obtain ⟨I6, kc, kf6⟩ := I5.appended (by decide) ho6 hg6 hF5 rfl; clear ho6 hat6 hg6))
          rw [List.length_append, List.length_singleton] at I6
          have hB6 := hB9.part I6.below (by omega)
          have hb26 := HW.out _ I6.below
          have k0 := hB6.c0
          have k1 := hB6.c1
          have t0 := (hb26.cell (show tb < w8.heap.size from htb)).trans HT0.out
          have gT : (tk != tk) = false := by simp
          generalize w10.setCell ⟨w8.heap.size, 0, none⟩ _ = w11 at *
          have htb11 : tb < w11.heap.size := by have := hb26.size; omega
          clear kc kf6 t1 t2 r0 r1 r2 r3 hK5 hO5 hF5
          go_region_held3 (fun w' => w'.cell? ⟨w.heap.size, 0, none⟩ = some (.slice (some ⟨b, oo, none⟩) s.tasks.length c) ∧ w'.cell? ⟨w.heap.size, 1, none⟩ = some (.slice B s.stations.length d) ∧ w'.cell? ⟨tb, to' + k, none⟩ = some (.int .i64 tk)) (first | exact ⟨k0', k1', t0'⟩ | exact ⟨k0, k1, t0⟩ | go_keep)
            (first | (go_at_call 21; refine (Hlt1.out _ (by first | exact hB6.below | exact hB6.below.drew | exact below_drewN hB6.below _)).mono ?_; rintro e' w12 ⟨rfl, hb8⟩
                      have hb9 : Below w11.heap.size w11 w12 := (by first | exact hb8 | exact ((Below.refl _ w11).drew).trans hb8 | exact (below_drewN (Below.refl _ w11) _).trans hb8)
                      have k0' := (hB6.later hb9).c0; have k1' := (hB6.later hb9).c1
                      have t0' := (hb9.cell (show tb < w11.heap.size from htb11)).trans t0; clear hb8))
          all_goals
            go_wp2_with fail
            go_roundw
            case rel => exact ⟨k+1, _, _, _, by omega, by go_num, I6.later hb9, Lib.hid HY.out.symm⟩
            case measure => simp [intOf]; omega
        · have hbw2 := HW.out wr I.below
          have r0 := (hbw2.cell (show w6.heap.size < w8.heap.size by omega)).trans r08
          have r1 := (hbw2.cell (show w6.heap.size < w8.heap.size by omega)).trans r18
          have t0 := I.c
          have t1 := I.c'
          have hkn : k = s.tasks.length := by omega
          have hys : Hid (ys = RT) := Lib.hid (by rw [HYS.out, ← HRT.out, hkn, List.take_of_length_le (Nat.le_refl _)])
          have hF1 : Kd.task.Sl wr (fun _ => True) RT (.slice rA RT.length rc) := (hX1.keep (Agree.below hbw2)).mono (by decide) (fun _ _ _ => trivial)
          have hF2 : Kd.station.Sl wr (fun _ => True) s.stations (.slice rB s.stations.length rd) := (hX2.keep (Agree.below hbw2)).mono (by decide) (fun _ _ _ => trivial)
          have hG1 : Kd.task.Sl wr (fun _ => True) ys (.slice vA0 ys.length vc0) := I.own.sl_to (by decide) (fun _ _ _ => trivial) (fun _ _ _ => trivial)
          have hG2 : Kd.station.Sl wr (fun _ => True) s.stations (.slice B s.stations.length d) := (HST.out.keep (Agree.below hbw)).mono (by decide) (fun _ _ _ => trivial)
          have hcall := law_sameShop ⟨RT, s.stations⟩ ⟨ys, s.stations⟩ _ _ _ _ wr ⟨_, _, rfl, hF1, hF2⟩ ⟨_, _, rfl, hG1, hG2⟩
          rw [hys.out, eqShop_refl] at hcall
          clear hkn
          have hysl : Hid (ys.length = RT.length) := Lib.hid (by rw [hys.out])
          rw [hysl.out] at t0
          go_wp2_with fail
          refine hcall.mono ?_
          rintro e w12 ⟨rfl, hb12⟩
          go_wp2_with fail
          go_ret
          exact ⟨rfl, (hBr.later hb12).below⟩
    · have ge : (checkOf s != 0) = true := by simpa using hc
      go_wp2_with fail
      refine (known_calls w3).mono ?_
      rintro e w4 ⟨rfl, hb4⟩
      go_wp2_with fail
      go_ret
      exact ⟨rfl, (hB3.later hb4).below⟩
end Go.Proofs.Ythigebbihclbiaa
