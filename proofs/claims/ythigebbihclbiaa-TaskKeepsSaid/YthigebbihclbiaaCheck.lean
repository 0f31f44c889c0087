/- task.Check. -/
import Derived.Test.YthigebbihclbiaaCheckP
import Derived.Deep.RegionHeld3
import Derived.Deep.DeepCutAuto
import Derived.Deep.CutBlock
namespace Go.Proofs.Ythigebbihclbiaa
open Go.RowKit

/-- The box of s, as it stands through the function. -/
structure Boxed (w wr : World) (a b : Value) : Prop where
  c0 : wr.cell? ⟨w.heap.size, 0, none⟩ = some a
  c1 : wr.cell? ⟨w.heap.size, 1, none⟩ = some b
  below : Below w.heap.size w wr
  size : w.heap.size < wr.heap.size
theorem Boxed.later {w wr wx : World} {a b : Value} (h : Boxed w wr a b) (hb : Below wr.heap.size wr wx) : Boxed w wx a b :=
  ⟨(hb.cell (show w.heap.size < _ from h.size)).trans h.c0, (hb.cell (show w.heap.size < _ from h.size)).trans h.c1, below_then h.below h.below.size hb, Nat.lt_of_lt_of_le h.size hb.size⟩
theorem Boxed.start (w : World) (a b : Value) (t : TypeId) : Boxed w (w.alloc (.cells #[a, b] t)) a b :=
  ⟨by go_simp, by go_simp, below_one _ _, by simp⟩

set_option maxRecDepth 100000 in
set_option maxHeartbeats 1000000 in
theorem check_calls (s : Shop) (F : Nat → Prop) (v : Value) (w : World) (h : ShopAt w F s v) :
    Calls Try.prog 29 #[v] w fun e w' => e = .returned (.int .i64 (checkOf s)) ∧ Below w.heap.size w w' := by
  obtain ⟨v1, v2, rfl, h1, h2⟩ := h
  have hS := Lib.hid (show ∀ W, Below w.heap.size w W → ShopAt W F s (.agg #[v1, v2]) from fun W hW => ⟨v1, v2, rfl, h1.keep (Agree.below hW), h2.keep (Agree.below hW)⟩)
  obtain ⟨A, c, rfl, hc1, hc2, hr⟩ := h1
  obtain ⟨B, d, rfl, hd1, hd2, hs⟩ := h2
  have HE := Lib.hid (show checkOf s = if 24 < s.tasks.length ∨ 8 < s.stations.length then 6 else check0 s from rfl)
  have E0 := Lib.hid (show check0 s = if errFrom (taskErr s.tasks) s.tasks.length 0 = 0 then check1 s else errFrom (taskErr s.tasks) s.tasks.length 0 from rfl)
  have E1 := Lib.hid (show check1 s = if (orderOf s.tasks).length < s.tasks.length then 30 else check2 s from rfl)
  have E2 := Lib.hid (show check2 s = if errFrom (stationErr s.stations) s.stations.length 0 = 0 then check3 s else errFrom (stationErr s.stations) s.stations.length 0 from rfl)
  have E3 := Lib.hid (show check3 s = if s.tasks.any (fun t => (toolsOf s.stations t.tool).isEmpty) = true then 10 else 0 from rfl)
  generalize checkOf s = R at *
  generalize check0 s = R0 at *
  generalize check1 s = R1 at *
  generalize check2 s = R2 at *
  generalize check3 s = R3 at *
  by_cases hlim : 24 < s.tasks.length ∨ 8 < s.stations.length
  · have HR := Lib.hid (HE.out.trans (if_pos hlim))
    by_cases h1 : 24 < s.tasks.length
    · have g1 : decide (24 < (s.tasks.length : Int)) = true := decide_eq_true (by omega)
      clear hlim
      go_enter Try.func29, Try.ntmps29
      go_wp2_with fail
      go_ret
      exact ⟨ret_int HR.out.symm, below_one _ _⟩
    · have g1 : decide (24 < (s.tasks.length : Int)) = false := decide_eq_false (by omega)
      have g2 : decide (8 < (s.stations.length : Int)) = true := decide_eq_true (by omega)
      clear hlim
      go_enter Try.func29, Try.ntmps29
      go_wp2_with fail
      go_ret
      exact ⟨ret_int HR.out.symm, below_one _ _⟩
  · have HR := Lib.hid (HE.out.trans (if_neg hlim))
    have g1 : decide (24 < (s.tasks.length : Int)) = false := decide_eq_false (by omega)
    have g2 : decide (8 < (s.stations.length : Int)) = false := decide_eq_false (by omega)
    have l1 : s.tasks.length ≤ 24 := by omega
    have l2 : s.stations.length ≤ 8 := by omega
    clear hlim HE
    go_enter Try.func29, Try.ntmps29
    go_wp2_with fail
    go_loopw [3, 4, 23] (fun _ _ i23 wr => ∃ k : Nat, k ≤ s.tasks.length ∧ i23 = .int .i64 k ∧ Boxed w wr (.slice A s.tasks.length c) (.slice B s.stations.length d) ∧ Hid (errFrom (taskErr s.tasks) s.tasks.length 0 = errFrom (taskErr s.tasks) (s.tasks.length - k) k)) (fun _ _ i23 _ => s.tasks.length - (intOf i23).toNat)
    case atStart => exact ⟨0, Nat.zero_le _, rfl, Boxed.start _ _ _ _, Lib.hid rfl⟩
    case round =>
      obtain ⟨k, hk, rfl, hB, H⟩ := hrel
      have k0 := hB.c0
      have k1 := hB.c1
      by_cases hlt : k < s.tasks.length
      · have hcall := task_calls s F _ wr k (hS.out wr hB.below) hlt
        have S := Lib.hid (errFrom_step (taskErr s.tasks) s.tasks.length k hlt)
        have hlt' : (k : Int) < (s.tasks.length : Int) := by omega
        generalize taskErr s.tasks k = e at *
        by_cases he : e = 0
        · subst he
          go_wp2_with (refine hcall.mono ?_; rintro e' w2 ⟨rfl, hb2⟩)
          go_roundw
          case rel => exact ⟨k+1, by omega, by go_num, hB.later hb2, Lib.hid (by rw [H.out, S.out]; simp)⟩
          case measure => simp [intOf]; omega
        · have ge : (e != 0) = true := by simpa using he
          have HX : Hid (R = e) := Lib.hid (by rw [HR.out, E0.out, H.out, S.out, if_neg he, if_neg he])
          clear he
          go_wp2_with (refine hcall.mono ?_; rintro e' w2 ⟨rfl, hb2⟩)
          go_ret
          exact ⟨ret_int HX.out.symm, (hB.later hb2).below⟩
      · have Z : errFrom (taskErr s.tasks) s.tasks.length 0 = 0 := by rw [H.out, show s.tasks.length - k = 0 by omega]; rfl
        have HR1 : Hid (R = R1) := Lib.hid (by rw [HR.out, E0.out, if_pos Z])
        have hAO := afterOk_of _ Z
        clear Z H HR E0
        obtain ⟨W, rfl⟩ : ∃ W : World, W = wr := ⟨_, rfl⟩
        have hcall := fun (W' : World) (h : Below W.heap.size W W') => order_calls s F _ W' (hS.out W' (hB.later h).below) hAO (by omega)
        have hlater := fun (W' w2 : World) (h : Below W.heap.size W W') (h2 : Below W'.heap.size W' w2) => (hB.later h).later h2
        have hz := hB.size
        clear hAO
        go_upto_region 10 with fail
        go_cut [39] (fun s39 wx => s39 = .bool (decide ((orderOf s.tasks).length < s.tasks.length)) ∧ Boxed w wx (.slice A s.tasks.length c) (.slice B s.stations.length d))
        case first =>
          go_region_held3 (fun w' => w'.cell? ⟨w.heap.size, 0, none⟩ = some (.slice A s.tasks.length c) ∧ w'.cell? ⟨w.heap.size, 1, none⟩ = some (.slice B s.stations.length d)) (first | exact ⟨k0', k1'⟩ | go_keep)
            (first | (go_at_call 56; refine (hcall _ (by first | exact Below.refl _ _ | exact (Below.refl _ _).drew | exact below_drewN (Below.refl _ _) _)).mono ?_; rintro e' w2 ⟨ov, rfl, ho, hb2⟩; have hB2 := hlater _ _ (by first | exact Below.refl _ _ | exact (Below.refl _ _).drew | exact below_drewN (Below.refl _ _) _) hb2; clear hb2; obtain ⟨oA, oc, rfl, _⟩ := ho.slice; clear ho; have k0' := hB2.c0; have k1' := hB2.c1))
          all_goals
            go_wp2_with fail
            go_meet
            exact ⟨rfl, hB2⟩
        case rest =>
          obtain ⟨rfl, hB2⟩ := hcut
          clear hcall hlater hB k0 k1
          have k0 := hB2.c0
          have k1 := hB2.c1
          cases hq : decide ((orderOf s.tasks).length < s.tasks.length)
          rotate_left 1
          · have HR2 : Hid (R = 30) := Lib.hid (by rw [HR1.out, E1.out, if_pos (of_decide_eq_true hq)])
            clear hq
            go_wp2_with fail
            go_ret
            exact ⟨ret_int HR2.out.symm, hB2.below⟩
          · have HR2 : Hid (R = R2) := Lib.hid (by rw [HR1.out, E1.out, if_neg (of_decide_eq_false hq)])
            clear hq HR1 E1
            go_wp2_with fail
            go_loopw [5, 6, 43] (fun _ _ i43 wr => ∃ k : Nat, k ≤ s.stations.length ∧ i43 = .int .i64 k ∧ Boxed w wr (.slice A s.tasks.length c) (.slice B s.stations.length d) ∧ Hid (errFrom (stationErr s.stations) s.stations.length 0 = errFrom (stationErr s.stations) (s.stations.length - k) k)) (fun _ _ i43 _ => s.stations.length - (intOf i43).toNat)
            case atStart => exact ⟨0, Nat.zero_le _, rfl, hB2, Lib.hid rfl⟩
            case round =>
              clear hB2 k0 k1
              obtain ⟨k, hk, rfl, hB, H⟩ := hrel
              have k0 := hB.c0
              have k1 := hB.c1
              by_cases hlt : k < s.stations.length
              · have hcall := station_calls s F _ wr k (hS.out wr hB.below) hlt
                have S := Lib.hid (errFrom_step (stationErr s.stations) s.stations.length k hlt)
                have hlt' : (k : Int) < (s.stations.length : Int) := by omega
                generalize stationErr s.stations k = e at *
                by_cases he : e = 0
                · subst he
                  go_wp2_with (refine hcall.mono ?_; rintro e' w3 ⟨rfl, hb3⟩)
                  go_roundw
                  case rel => exact ⟨k+1, by omega, by go_num, hB.later hb3, Lib.hid (by rw [H.out, S.out]; simp)⟩
                  case measure => simp [intOf]; omega
                · have ge : (e != 0) = true := by simpa using he
                  have HX : Hid (R = e) := Lib.hid (by rw [HR2.out, E2.out, H.out, S.out, if_neg he, if_neg he])
                  clear he
                  go_wp2_with (refine hcall.mono ?_; rintro e' w3 ⟨rfl, hb3⟩)
                  go_ret
                  exact ⟨ret_int HX.out.symm, (hB.later hb3).below⟩
              · have Z : errFrom (stationErr s.stations) s.stations.length 0 = 0 := by rw [H.out, show s.stations.length - k = 0 by omega]; rfl
                have HR3 : Hid (R = R3) := Lib.hid (by rw [HR2.out, E2.out, if_pos Z])
                have hcall := tools_calls s F _ wr (hS.out wr hB.below) (toolsOk_of _ l2 Z)
                clear Z H HR2 E2
                obtain ⟨W, rfl⟩ : ∃ W : World, W = wr := ⟨_, rfl⟩
                go_wp2_with fail
                refine hcall.mono ?_
                rintro e' w3 ⟨mb, mn, mbase, rfl, hM, hmn, hmb, hmbase, hb3⟩
                have hB3 := hB.later hb3
                clear hcall hB k0 k1 hb3
                have k0 := hB3.c0
                have k1 := hB3.c1
                have HM := Lib.hid hM
                have HMn := Lib.hid hmn
                clear hM hmn
                go_wp2_with fail
                clear k0 k1
                go_loopw [9, 58] (fun _ i58 wr => ∃ k : Nat, k ≤ s.tasks.length ∧ i58 = .int .i64 k ∧ Below w.heap.size w wr ∧ MapIs wr mbase mb mn (toolsOf s.stations) ∧
                  Hid (s.tasks.any (fun t => (toolsOf s.stations t.tool).isEmpty) = (s.tasks.drop k).any (fun t => (toolsOf s.stations t.tool).isEmpty))) (fun _ i58 _ => s.tasks.length - (intOf i58).toNat)
                case atStart => exact ⟨0, Nat.zero_le _, rfl, hB3.below, HM.out, Lib.hid rfl⟩
                case round =>
                  obtain ⟨k, hk, rfl, hb, HM4, H⟩ := hrel
                  have hM4 := Lib.hid HM4
                  clear HM4 hB3 HM
                  by_cases hlt : k < s.tasks.length
                  · obtain ⟨b, o, A1, a1, rfl, _, hl1, c0, c1, c2, c3, hK⟩ := task_at (hr.keep (Agree.below hb)) k hlt
                    have S := Lib.hid (any_step (fun t : Task => (toolsOf s.stations t.tool).isEmpty) s.tasks k hlt)
                    have hlt' : (k : Int) < (s.tasks.length : Int) := by omega
                    obtain ⟨_, hts⟩ := Kd.K_tsize hK
                    generalize s.tasks[k] = t at *
                    generalize hgg : toolsOf s.stations t.tool = l at *
                    have HGG := Lib.hid hgg
                    clear hgg
                    clear hr
                    cases l with
                    | nil =>
                      have HX : Hid (R = 10) := Lib.hid (by rw [HR3.out, E3.out, if_pos (by rw [H.out, S.out]; rfl)])
                      go_wp2_with (at_lookup; refine map_look _ rfl (.tmp 62) (.tmp 64) 83 rfl Try.underlying83 mbase mb mn (toolsOf s.stations) rfl (hM4.out.below (below_one _ _)) (by have := HMn.out; omega) t.tool rfl hts ?_; intro v ho hzl hback; clear hback; rw [HGG.out] at ho; obtain ⟨oA, oc, rfl, _⟩ := ho.slice)
                      go_ret
                      exact ⟨ret_int HX.out.symm, hb.alloc hb.size _⟩
                    | cons y ys =>
                      have gy : ((((y :: ys).length : Nat) : Int) == 0) = false := beq_eq_false_iff_ne.2 (by simp; omega)
                      go_wp2_with (at_lookup; refine map_look _ rfl (.tmp 62) (.tmp 64) 83 rfl Try.underlying83 mbase mb mn (toolsOf s.stations) rfl (hM4.out.below (below_one _ _)) (by have := HMn.out; omega) t.tool rfl hts ?_; intro v ho hzl hback; clear hback; rw [HGG.out] at ho; obtain ⟨oA, oc, rfl, _⟩ := ho.slice)
                      go_roundw
                      case rel => exact ⟨k+1, by omega, by go_num, hb.alloc hb.size _, hM4.out.below (below_one _ _), Lib.hid (by rw [H.out, S.out]; rfl)⟩
                      case measure => simp [intOf]; omega
                  · have HX : Hid (R = 0) := Lib.hid (by rw [HR3.out, E3.out, if_neg (by rw [H.out, List.drop_of_length_le (by omega)]; simp)])
                    go_wp2_with fail
                    go_ret
                    exact ⟨ret_int HX.out.symm, hb⟩
end Go.Proofs.Ythigebbihclbiaa
