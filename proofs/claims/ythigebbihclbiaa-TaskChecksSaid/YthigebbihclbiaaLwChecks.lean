/- The law TaskChecks, walked. -/
import Derived.Test.YthigebbihclbiaaErrs
import Derived.Laws.MakeOwn
namespace Go.Proofs.Ythigebbihclbiaa
open Go.RowKit
set_option maxRecDepth 100000

theorem run_make_rowN {P : Program} (t e : TypeId) (i : TypeInfo) (z : Value) (ht : P.underlying t = some (.slice e)) (hi : P.info? e = some i) (hz : i.zero = some z)
    (kl kc : IntKind) (n c : Nat) (hnc : n ≤ c) (hbytes : i.bytes * c ≤ 281474976710656) (h63 : c ≤ 9223372036854775807) (w : World) :
    (Instr.makeSlice t (.int kl (n : Int)) (.int kc (c : Int))).run P w = .ok (.slice (some ⟨w.heap.size, 0, none⟩) n c) (w.alloc (.cells (madeCells z.cells (c * i.size)) e)) := by
  have hb : (i.bytes : Int) * (c : Int) ≤ 281474976710656 := by
    have h : ((i.bytes * c : Nat) : Int) ≤ 281474976710656 := by omega
    rwa [Int.natCast_mul] at h
  have hr := run_make (P := P) w t e i z ht hi hz kl kc n c (by omega) (by omega) hb (by omega)
  simp only [Int.toNat_natCast] at hr
  exact hr
theorem make25 : ∃ O, ∀ W : World, (Instr.makeSlice 22 (.int .i64 25) (.int .i64 25)).run Try.prog W = .ok (.slice (some ⟨W.heap.size, 0, none⟩) 25 25) (W.alloc O) := by
  obtain ⟨i0, hi, hzz⟩ := Option.map_eq_some_iff.1 task_info
  simp only [Prod.mk.injEq] at hzz
  obtain ⟨hz0, hz1, hz2⟩ := hzz
  exact ⟨_, fun W => run_make_rowN _ _ i0 _ Try.underlying22 hi hz0 .i64 .i64 25 25 (Nat.le_refl _) (by rw [hz2]; decide) (by decide) W⟩
theorem make9 : ∃ O, ∀ W : World, (Instr.makeSlice 23 (.int .i64 9) (.int .i64 9)).run Try.prog W = .ok (.slice (some ⟨W.heap.size, 0, none⟩) 9 9) (W.alloc O) := by
  obtain ⟨i0, hi, hzz⟩ := Option.map_eq_some_iff.1 station_info
  simp only [Prod.mk.injEq] at hzz
  obtain ⟨hz0, hz1, hz2⟩ := hzz
  exact ⟨_, fun W => run_make_rowN _ _ i0 _ Try.underlying23 hi hz0 .i64 .i64 9 9 (Nat.le_refl _) (by rw [hz2]; decide) (by decide) W⟩

set_option maxHeartbeats 4000000 in
theorem law_checks (s : Shop) (F : Nat → Prop) (v : Value) (i : Int) (w : World) (h : ShopAt w F s v) :
    Calls Try.prog 9 #[v, .int .i64 i] w fun e w' => e = .returned (.bool true) ∧ Below w.heap.size w w' := by
  obtain ⟨v1, v2, rfl, h1, h2⟩ := h
  have hS := Lib.hid (show ∀ W, Below w.heap.size w W → ShopAt W F s (.agg #[v1, v2]) from fun W hW => ⟨v1, v2, rfl, h1.keep (Agree.below hW), h2.keep (Agree.below hW)⟩)
  have hB := Boxed.start w v1 v2 25
  obtain ⟨A, c, rfl, _⟩ := h1
  obtain ⟨B, d, rfl, _⟩ := h2
  obtain ⟨O25, hm25⟩ := make25
  obtain ⟨O9, hm9⟩ := make9
  go_enter Try.func9, Try.ntmps9
  go_upto_region 1 with fail
  generalize w.alloc _ = W at *
  go_wp2_with fail
  refine (known_calls W).mono ?_
  rintro e w1 ⟨rfl, hb1⟩
  have hB1 := hB.later hb1
  clear hb1 hB
  have k0 := hB1.c0
  have k1 := hB1.c1
  go_wp2_with fail
  refine (few_calls s F _ w1 (hS.out _ hB1.below)).mono ?_
  rintro e w2 ⟨rfl, hb2⟩
  have hB2 := hB1.later hb2
  clear k0 k1 hb2 hB1
  cases hfa : fewOf s with
  | false =>
    go_wp2_with fail
    refine (known_calls w2).mono ?_
    rintro e w3 ⟨rfl, hb3⟩
    go_wp2_with fail
    go_ret
    exact ⟨rfl, (hB2.later hb3).below⟩
  | true =>
    have HF := Lib.hid hfa
    clear hfa
    have k0 := hB2.c0
    have k1 := hB2.c1
    go_wp2_with fail
    refine (law_check s F _ w2 (hS.out _ hB2.below)).mono ?_
    rintro e w3 ⟨rfl, hb3⟩
    have hB3 := hB2.later hb3
    clear k0 k1 hb3 hB2
    have k0 := hB3.c0
    have k1 := hB3.c1
    have gcc : (checkOf s != checkOf s) = false := by simp
    go_wp2_with fail
    refine (check_calls s F _ w3 (hS.out _ hB3.below)).mono ?_
    rintro e w4 ⟨rfl, hb4⟩
    have hB4 := hB3.later hb4
    clear k0 k1 hb4 hB3
    go_wp2_with fail
    refine (check_limit _ _ 25 25 0 0 _ (by decide) (by decide) (.inl (by decide))).mono ?_
    rintro e w5 ⟨rfl, hb5⟩
    have hB5 := (hB4.later (below_one _ O25)).later hb5
    clear hb5 hB4 hm25
    go_wp2_with fail
    refine (check_limit _ _ 0 0 9 9 _ (by decide) (by decide) (.inr (by decide))).mono ?_
    rintro e w6 ⟨rfl, hb6⟩
    have hB6 := (hB5.later (below_one _ O9)).later hb6
    clear hb6 hB5 hm9
    have k0 := hB6.c0
    have k1 := hB6.c1
    go_wp2_with fail
    refine (task_equal s s F F _ _ w6 (hS.out _ hB6.below) (hS.out _ hB6.below)).mono ?_
    rintro e w7 ⟨rfl, hb7⟩
    rw [eqShop_refl]
    have hB7 := hB6.later hb7
    clear hb7 hB6 k0 k1 gcc
    by_cases hc : checkOf s = 0
    · rw [hc]
      go_wp2_with fail
      go_ret
      exact ⟨rfl, hB7.below⟩
    · have ge : (checkOf s == 0) = false := by simpa using hc
      have H1 := Lib.hid (fun W hW => able_err s F _ i W (hS.out W hW) hc)
      have H2 := Lib.hid (fun W hW => show Calls Try.prog 25 _ W (RetL [] (checkOf s) W) from by have := task_order s F _ W (hS.out W hW); rwa [show orderPub s = [] from if_neg hc] at this)
      have H3 := Lib.hid (fun W hW => before_err s F _ W (hS.out W hW) hc)
      have H4 := Lib.hid (fun W hW => show Calls Try.prog 17 _ W (RetS ⟨[], []⟩ (checkOf s) W) from by
        have hf := HF.out
        unfold fewOf at hf
        simp only [Bool.and_eq_true, List.all_eq_true, fewTask, fewStation, decide_eq_true_eq] at hf
        have := task_reduce s F _ W (hS.out W hW) (fun t ht => by have := (hf.2.1 t ht).1; omega) (fun x hx => by have := (hf.2.2 x hx).1; omega)
        rwa [show reducePub s = ⟨[], []⟩ from if_neg hc] at this)
      have H5 := Lib.hid (fun W hW => show Calls Try.prog 15 _ W (RetL [] (checkOf s) W) from by have := task_tails s F _ W (hS.out W hW); rwa [show tailsPub s = [] from if_neg hc] at this)
      have H6 := Lib.hid (fun W hW => show Calls Try.prog 16 _ W (RetC 0 [] (checkOf s) W) from by have := task_critical s F _ W (hS.out W hW); rwa [show critLen s = 0 from if_neg (fun h => hc h.1), show critPath s = [] from if_neg (fun h => hc h.1)] at this)
      have H7 := Lib.hid (fun W A' n c' hW => load_err s F _ A' n c' W (hS.out W hW) hc)
      have gq : (checkOf s == checkOf s) = true := by simp
      clear hS HF
      generalize checkOf s = cc at *
      clear hc
      have k0 := hB7.c0
      have k1 := hB7.c1
      go_wp2_with fail
      refine (H1.out _ hB7.below).mono ?_
      rintro e w8 ⟨rfl, hb8⟩
      have hB8 := hB7.later hb8
      clear k0 k1 hb8 hB7 H1
      have k0 := hB8.c0
      have k1 := hB8.c1
      go_wp2_with fail
      refine (H2.out _ hB8.below).mono ?_
      rintro e w9 ⟨o, rfl, ho, hb9⟩
      obtain ⟨oA, oc, rfl, _⟩ := ho
      have hB9 := hB8.later hb9
      clear k0 k1 hb9 hB8 H2
      have k0 := hB9.c0
      have k1 := hB9.c1
      go_wp2_with fail
      refine (H3.out _ hB9.below).mono ?_
      rintro e w10 ⟨rfl, hb10⟩
      have hB10 := hB9.later hb10
      clear k0 k1 hb10 hB9 H3
      have k0 := hB10.c0
      have k1 := hB10.c1
      go_wp2_with fail
      refine (H4.out _ hB10.below).mono ?_
      rintro e w11 ⟨r, rfl, ⟨_, _, rfl, ⟨rA, rc, rfl, _, hrc, _⟩, ⟨rB, rd, rfl, _, hrd, _⟩⟩, hb11⟩
      have hB11 := hB10.later hb11
      clear k0 k1 hb11 hB10 H4
      go_upto_region 12 with fail
      have hR := Boxed.start w11 (.slice rA 0 rc) (.slice rB 0 rd) 25
      replace hB11 := hB11.later (below_one w11 (.cells #[.slice rA 0 rc, .slice rB 0 rd] 25))
      have hz11 := hB11.size
      generalize w11.alloc (.cells #[.slice rA 0 rc, .slice rB 0 rd] 25) = w12 at *
      have k0 := hB11.c0
      have k1 := hB11.c1
      go_wp2_with fail
      refine (H5.out _ hB11.below).mono ?_
      rintro e w13 ⟨t, rfl, ht, hb13⟩
      obtain ⟨tA, tc, rfl, _⟩ := ht
      have hB13 := hB11.later hb13
      replace hR := hR.later hb13
      clear k0 k1 hb13 hB11 H5
      have k0 := hB13.c0
      have k1 := hB13.c1
      go_wp2_with fail
      refine (H6.out _ hB13.below).mono ?_
      rintro e w14 ⟨p, rfl, hp, hb14⟩
      obtain ⟨pA, pc, rfl, _⟩ := hp
      have hB14 := hB13.later hb14
      replace hR := hR.later hb14
      clear k0 k1 hb14 hB13 H6
      have k0 := hB14.c0
      have k1 := hB14.c1
      go_upto_region 14 with fail
      have hbx := below_one w14 (.cells #[.int .i64 0] 3)
      have hB15 := hB14.later hbx
      replace hR := hR.later hbx
      clear k0 k1
      have hzz := hB14.size
      have k0' := hB14.c0
      have k1' := hB14.c1
      go_wp2_with fail
      refine (H7.out _ _ 1 1 hB15.below).mono ?_
      rintro e w16 ⟨rfl, hb16⟩
      have hB16 := hB15.later hb16
      replace hR := hR.later hb16
      clear hb16 hB15 hB14 H7 k0' k1' hzz hbx
      have r0 := hR.c0
      have r1 := hR.c1
      have hzr := hR.size
      go_wp2_with fail
      refine (law_sameShop ⟨[], []⟩ ⟨[], []⟩ (fun _ => False) (fun _ => False) _ _ w16 ⟨_, _, rfl, ⟨rA, rc, rfl, Nat.zero_le _, hrc, Kd.Row.nil _ _ _ _⟩, ⟨rB, rd, rfl, Nat.zero_le _, hrd, Kd.Row.nil _ _ _ _⟩⟩ ⟨_, _, rfl, Kd.Sl.nil _ _ _, Kd.Sl.nil _ _ _⟩).mono ?_
      rintro e w17 ⟨rfl, hb17⟩
      rw [eqShop_refl]
      go_wp2_with fail
      go_ret
      exact ⟨rfl, (hB16.later hb17).below⟩
end Go.Proofs.Ythigebbihclbiaa
