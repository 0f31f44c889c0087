/- The law's reduced. -/
import Derived.Test.YthigebbihclbiaaLawBef
namespace Go.Proofs.Ythigebbihclbiaa
open Go.RowKit
set_option maxRecDepth 100000

theorem trues_has (f : Nat → Bool) (n x : Nat) (hx : x < n) : (truesUpto f n).contains (x : Int) = f x := by
  rw [Bool.eq_iff_iff, List.contains_iff_mem, truesUpto_mem]
  constructor
  · rintro ⟨j, _, e, h⟩
    rw [show x = j by omega]; exact h
  · intro h
    exact ⟨x, hx, rfl, h⟩

set_option maxHeartbeats 4000000 in
theorem law_reduced (s : Shop) (F : Nat → Prop) (v : Value) (w : World) (i : Nat) (h : ShopAt w F s v) (hc : checkOf s = 0) (hi : i < s.tasks.length) :
    Calls Try.prog 20 #[v, .int .i64 i] w (RetInts (redAfter s.tasks s.tasks[i].after) w) := by
  obtain ⟨l1, _, Z, hnl, _⟩ := zero_of_check s hc
  have hok := afterOk_of _ Z
  have hup := afterUp_of _ Z
  have hrng := hok _ (List.getElem_mem hi)
  have hal : s.tasks[i].after.length ≤ s.tasks.length := nodup_len _ _ ((hup _ (List.getElem_mem hi)).imp (fun h => Int.ne_of_lt h)) hrng
  obtain ⟨v1, v2, rfl, h1, h2⟩ := h
  have hS := Lib.hid (show ∀ W, Below w.heap.size w W → ShopAt W F s (.agg #[v1, v2]) from fun W hW => ⟨v1, v2, rfl, h1.keep (Agree.below hW), h2.keep (Agree.below hW)⟩)
  have HLB := Lib.hid (fun W hW k hk => law_before s F _ W k (hS.out W hW) hc hk)
  have hB := Boxed.start w v1 v2 25
  obtain ⟨A, c, rfl, hc1, hc2, hr⟩ := h1
  obtain ⟨B, d, rfl, _⟩ := h2
  obtain ⟨b, o, A1, a1, rfl, _, hl1, _, _, _, cw3, hK⟩ := task_at hr i hi
  have hA := Kd.K_after hK
  have HE := Lib.hid (show redAfter s.tasks s.tasks[i].after = s.tasks[i].after.filter (fun k => !s.tasks[i].after.any (fun j => befAt s.tasks j.toNat k.toNat)) from rfl)
  generalize redAfter s.tasks s.tasks[i].after = R at *
  generalize s.tasks[i].after = al at *
  have HRG := Lib.hid hrng
  have hi' : (i : Int) < (s.tasks.length : Int) := by omega
  have h0i : (0 : Int) ≤ (i : Int) := by omega
  clear hc Z hnl hok hup hrng hK
  obtain ⟨_, _, he, _, ham, hra⟩ := hA
  obtain ⟨rfl, -, rfl⟩ := Value.slice.inj he
  clear he
  go_enter Try.func20, Try.ntmps20
  go_upto_region 1 with fail
  generalize w.alloc _ = W at *
  have k0 := hB.c0
  have k1 := hB.c1
  have c3 := (hB.below.cell (p := ⟨b, o + i * 4 + 3, none⟩) hl1).trans cw3
  go_wp2_with fail
  clear k0 k1 c3
  go_loopw [5, 7, 8, 10, 18] (fun i5 _ _ _ i18 wr => ∃ (q : Nat) (ys : List Int), q ≤ al.length ∧ i18 = .int .i64 q ∧ Boxed w wr (.slice (some ⟨b, o, none⟩) s.tasks.length c) (.slice B s.stations.length d) ∧ Kd.int.Own 3 wr (w.heap.size + 1) Kd.NoB i5 ys ∧ Hid (ys = (al.take q).filter (fun k => !al.any (fun j => befAt s.tasks j.toNat k.toNat)))) (fun _ _ _ _ i18 _ => al.length - (intOf i18).toNat)
  case atStart => exact ⟨0, [], Nat.zero_le _, rfl, hB, Kd.Own.nil _ _ _ _ _, Lib.hid rfl⟩
  case round =>
    clear hB
    obtain ⟨q, ys, hq, rfl, hB, ho, HY⟩ := hrel
    obtain ⟨yA, yc, rfl, _⟩ := ho.slice
    have k0 := hB.c0
    have k1 := hB.c1
    have c3 := (hB.below.cell (p := ⟨b, o + i * 4 + 3, none⟩) hl1).trans cw3
    by_cases hlt : q < al.length
    · have hra' := hra.keep (Agree.below hB.below)
      obtain ⟨b3, o3, rfl, _, hb3, c4⟩ := int_at hra' q hlt
      have hlt' : (q : Int) < (al.length : Int) := by omega
      obtain ⟨x0, x1⟩ := HRG.out al[q] (List.getElem_mem hlt)
      have HS : Hid ((al.take (q+1)).filter (fun k => !al.any (fun j => befAt s.tasks j.toNat k.toNat)) = ys ++ (if al.any (fun j => befAt s.tasks j.toNat al[q].toNat) = true then [] else [al[q]])) := Lib.hid (by
        rw [take_succ_at al q hlt, List.filter_append, ← HY.out]
        congr 1
        simp only [List.filter_cons, List.filter_nil]
        cases al.any (fun j => befAt s.tasks j.toNat al[q].toNat) <;> rfl)
      have hyl : (ys.length + 1) * 8 ≤ 140737488355328 := by
        have : ys.length ≤ al.length := by rw [HY.out]; exact Nat.le_trans (List.length_filter_le _ _) (by rw [List.length_take]; omega)
        omega
      generalize al[q] = xx at *
      obtain ⟨x, rfl⟩ := Int.eq_ofNat_of_zero_le x0
      have hx : x < s.tasks.length := by omega
      rw [show ((x : Int)).toNat = x from Int.toNat_natCast x] at HS
      obtain ⟨W2, rfl⟩ : ∃ W2 : World, W2 = wr := ⟨_, rfl⟩
      go_wp2_with fail
      go_loopw [8, 10, 29] (fun i8 _ i29 wx => ∃ p : Nat, p ≤ al.length ∧ i29 = .int .i64 p ∧ i8 = .bool ((al.take p).any (fun j => befAt s.tasks j.toNat x)) ∧ Boxed w wx (.slice (some ⟨b, o, none⟩) s.tasks.length c) (.slice B s.stations.length d) ∧ Below W2.heap.size W2 wx) (fun _ _ i29 _ => al.length - (intOf i29).toNat)
      case atStart => exact ⟨0, Nat.zero_le _, rfl, rfl, hB, Below.refl _ _⟩
      case round =>
        clear hB k0 k1 c3 c4
        obtain ⟨p, hp, rfl, rfl, hB, hb2⟩ := hrel
        have k0 := hB.c0
        have k1 := hB.c1
        by_cases hlt2 : p < al.length
        · obtain ⟨b5, o5, e5, _, _, c5⟩ := int_at (hra.keep (Agree.below hB.below)) p hlt2
          obtain ⟨rfl, rfl⟩ : b3 = b5 ∧ o3 = o5 := by simpa using e5
          have hlt2' : (p : Int) < (al.length : Int) := by omega
          obtain ⟨y0, y1⟩ := HRG.out al[p] (List.getElem_mem hlt2)
          have HT : Hid ((al.take (p+1)).any (fun j => befAt s.tasks j.toNat x) = ((al.take p).any (fun j => befAt s.tasks j.toNat x) || befAt s.tasks al[p].toNat x)) := Lib.hid (by rw [take_succ_at al p hlt2, List.any_append]; simp)
          generalize al[p] = yy at *
          obtain ⟨y, rfl⟩ := Int.eq_ofNat_of_zero_le y0
          rw [show ((y : Int)).toNat = y from Int.toNat_natCast y] at HT
          have hy : y < s.tasks.length := by omega
          generalize (al.take p).any (fun j => befAt s.tasks j.toNat x) = r at *
          cases r with
          | true =>
            go_wp2_with fail
            go_roundw
            case rel => exact ⟨p+1, by omega, by go_num, by rw [HT.out]; simp, hB, hb2⟩
            case measure => simp [intOf]; omega
          | false =>
            have hcb := HLB.out wr hB.below y hy
            have HTH := Lib.hid (trues_has (befAt s.tasks y) s.tasks.length x hx)
            generalize truesUpto (befAt s.tasks y) s.tasks.length = X at *
            generalize befAt s.tasks y x = z at *
            go_wp2_with fail
            refine hcb.mono ?_
            rintro e w5 ⟨lv, rfl, hlo, hb5⟩
            have hch := law_has lv _ X (x : Int) w5 hlo.sl
            rw [HTH.out] at hch
            have hB5 := hB.later hb5
            go_wp2_with (refine hch.mono ?_; rintro e' w' ⟨rfl, rfl⟩)
            go_roundw
            case rel => exact ⟨p+1, by omega, by go_num, by rw [HT.out]; simp, hB5, hb2.trans (hb5.mono hb2.size)⟩
            case measure => simp [intOf]; omega
        · have hr2 : (al.take p).any (fun j => befAt s.tasks j.toNat x) = al.any (fun j => befAt s.tasks j.toNat x) := by rw [List.take_of_length_le (by omega)]
          rw [hr2]
          have ho2 := ho.below hb2
          have hzb := hB.size
          clear hr2
          generalize al.any (fun j => befAt s.tasks j.toNat x) = r at *
          cases r with
          | true =>
            go_wp2_with fail
            go_roundw
            case rel => exact ⟨q+1, ys, by omega, by go_num, hB, ho2, Lib.hid (by rw [HS.out]; simp)⟩
            case measure => simp [intOf]; omega
          | false =>
            go_wp2_with (at_builtin; go_must (refine Kd.app_at Kd.int (w.heap.size + 1) Kd.NoB rfl (.tmp 44) (.tmp 46) 31 3 (.int .i64 0) 8 rfl Try.underlying31 int_info rfl (by decide) (by omega) (.slice yA ys.length yc) ys (x : Int) #[.int .i64 x] rfl _ rfl rfl ⟨rfl, trivial⟩ ho2 hzb (fun b hb => hb.elim) hyl ?_; intro v1 w6 ho6 hg6 hat6; obtain ⟨nA, nc, rfl, _⟩ := ho6.slice))
            have hB6 := hB.grown hg6 (fun j hj => by have := (ho2.lt j hj).1; omega)
            go_roundw
            case rel =>
              rw [List.length_append] at ho6
              exact ⟨q+1, _, by omega, by go_num, hB6, ho6, Lib.hid (by rw [HS.out]; simp)⟩
            case measure => simp [intOf]; omega
    · have hR : Hid (R = ys) := Lib.hid (by rw [HE.out, HY.out, List.take_of_length_le (by omega)])
      go_wp2_with fail
      go_ret
      exact ⟨.slice yA ys.length yc, rfl, by rw [hR.out]; exact ho.lower (by omega), hB.below⟩
end Go.Proofs.Ythigebbihclbiaa
