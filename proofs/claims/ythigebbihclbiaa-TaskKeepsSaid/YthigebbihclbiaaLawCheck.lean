/- The law's check gives what task.Check gives. -/
import Derived.Test.YthigebbihclbiaaLawAble
import Derived.Test.YthigebbihclbiaaGrOrd
import Derived.Test.YthigebbihclbiaaLawTask
import Derived.Test.YthigebbihclbiaaLawStation
namespace Go.Proofs.Ythigebbihclbiaa
open Go.RowKit
set_option maxRecDepth 100000

theorem isEmpty_iff (t : ByteArray) : isEmpty t = true ↔ t = ⟨#[]⟩ := by
  have h := seq_iff t ⟨#[]⟩
  rw [← h, seq, isEmpty]
  simp [List.isEmpty_iff]
theorem stPart_nil (x : Station) (i : Nat) (t : ByteArray) : (stPart x i t).isEmpty = !hasTool x t := by
  unfold stPart hasTool
  rw [Bool.eq_iff_iff]
  simp only [List.isEmpty_iff, List.append_eq_nil_iff, List.map_eq_nil_iff, List.filter_eq_nil_iff, decide_eq_true_eq, Bool.not_eq_true', Bool.or_eq_false_iff, List.any_eq_false]
  constructor
  · rintro ⟨h1, h2⟩
    refine ⟨fun u hu hq => h2 u hu ((seq_iff u t).1 hq).symm, ?_⟩
    cases he : isEmpty t with
    | false => rfl
    | true => rw [if_pos ((isEmpty_iff t).1 he)] at h1; cases h1
  · rintro ⟨h1, h2⟩
    refine ⟨if_neg (fun h => by rw [(isEmpty_iff t).2 h] at h2; cases h2), fun u hu hq => h1 u hu ((seq_iff u t).2 hq.symm)⟩
theorem empty_app {α : Type} (a b : List α) : (a ++ b).isEmpty = (a.isEmpty && b.isEmpty) := by cases a <;> simp
theorem able_nil (ss : List Station) (t : ByteArray) : ∀ k, (toolsUpto ss k t).isEmpty = (ableUpto ss t k).isEmpty
  | 0 => rfl
  | k + 1 => by
    rw [toolsUpto, ableUpto, empty_app, empty_app, able_nil ss t k]
    congr 1
    cases ss[k]? with
    | none => rfl
    | some x =>
      show (stPart x k t).isEmpty = (if hasTool x t = true then [(k : Int)] else []).isEmpty
      rw [stPart_nil]
      cases hasTool x t <;> rfl
theorem ableOf_nil (ss : List Station) (t : ByteArray) : (toolsOf ss t).isEmpty = (ableOf ss t).isEmpty := able_nil ss t ss.length

theorem up_len (n : Nat) : ∀ (l : List Int) (a : Int), l.Pairwise (· < ·) → (∀ x ∈ l, a ≤ x ∧ x < n) → a ≤ n → (l.length : Int) ≤ n - a
  | [], a, _, _, h => by simp; omega
  | x :: l, a, hp, hx, _ => by
    obtain ⟨h1, h2⟩ := List.pairwise_cons.1 hp
    have hx0 := hx x (List.mem_cons_self ..)
    have := up_len n l (x+1) h2 (fun y hy => ⟨by have := h1 y hy; omega, (hx y (List.mem_cons_of_mem _ hy)).2⟩) (by omega)
    simp
    omega
theorem after_len {ts : List Task} (hok : AfterOk ts) (hup : AfterUp ts) : ∀ t ∈ ts, t.after.length ≤ ts.length := fun t ht => by
  have := up_len ts.length t.after 0 (hup t ht) (hok t ht) (by omega)
  omega
theorem good_of {ts : List Task} {es : List (Int × Int)} (hl : ts.length ≤ 24) (hok : AfterOk ts) (hup : AfterUp ts) (hp : es.Perm (edgesOf ts)) (hr : Rising es) : GoodGraph ts.length es :=
  ⟨by omega, by rw [hp.length_eq]; exact edgesUpto_len ts.length (after_len hok hup) ts.length (Nat.le_refl _), fun e he => edges_mem hok e (hp.mem_iff.1 he), hr⟩

set_option maxHeartbeats 4000000 in
theorem law_check (s : Shop) (F : Nat → Prop) (v : Value) (w : World) (h : ShopAt w F s v) :
    Calls Try.prog 14 #[v] w fun e w' => e = .returned (.int .i64 (checkOf s)) ∧ Below w.heap.size w w' := by
  obtain ⟨v1, v2, rfl, h1, h2⟩ := h
  have hS := Lib.hid (show ∀ W, Below w.heap.size w W → ShopAt W F s (.agg #[v1, v2]) from fun W hW => ⟨v1, v2, rfl, h1.keep (Agree.below hW), h2.keep (Agree.below hW)⟩)
  have hB0 := Boxed.start w v1 v2 25
  obtain ⟨A, c, rfl, hc1, hc2, hr⟩ := h1
  obtain ⟨B, d, rfl, hd1, hd2, hs⟩ := h2
  have HE := Lib.hid (show checkOf s = if 24 < s.tasks.length ∨ 8 < s.stations.length then 6 else check0 s from rfl)
  have E0 := Lib.hid (show check0 s = if errFrom (taskErr s.tasks) s.tasks.length 0 = 0 then check1 s else errFrom (taskErr s.tasks) s.tasks.length 0 from rfl)
  have E1 := Lib.hid (show check1 s = if (orderOf s.tasks).length < s.tasks.length then 30 else check2 s from rfl)
  have E2 := Lib.hid (show check2 s = if errFrom (stationErr s.stations) s.stations.length 0 = 0 then check3 s else errFrom (stationErr s.stations) s.stations.length 0 from rfl)
  have E3 := Lib.hid (show check3 s = if s.tasks.any (fun t => (toolsOf s.stations t.tool).isEmpty) = true then 10 else 0 from rfl)
  generalize checkOf s = R at *
  generalize check0 s = R0 at *
  generalize check1 s = R1 at *
  generalize check2 s = R2 at *
  generalize check3 s = R3 at *
  go_enter Try.func14, Try.ntmps14
  go_upto_region 1 with fail
  generalize w.alloc _ = W at *
  have k0 := hB0.c0
  have k1 := hB0.c1
  by_cases hlim : 24 < s.tasks.length ∨ 8 < s.stations.length
  · have HR := HE.out.trans (if_pos hlim)
    subst HR
    by_cases h1 : 24 < s.tasks.length
    · have g1 : decide (24 < (s.tasks.length : Int)) = true := decide_eq_true (by omega)
      clear hlim
      go_wp2_with fail
      go_ret
      exact ⟨rfl, hB0.below⟩
    · have g1 : decide (24 < (s.tasks.length : Int)) = false := decide_eq_false (by omega)
      have g2 : decide (8 < (s.stations.length : Int)) = true := decide_eq_true (by omega)
      clear hlim
      go_wp2_with fail
      go_ret
      exact ⟨rfl, hB0.below⟩
  · have HR := Lib.hid (HE.out.trans (if_neg hlim))
    have g1 : decide (24 < (s.tasks.length : Int)) = false := decide_eq_false (by omega)
    have g2 : decide (8 < (s.stations.length : Int)) = false := decide_eq_false (by omega)
    have l1 : s.tasks.length ≤ 24 := by omega
    have l2 : s.stations.length ≤ 8 := by omega
    clear hlim HE
    go_wp2_with fail
    clear g1 g2 k0 k1
    go_loopw [3, 4] (fun i3 _ wr => ∃ k : Nat, k ≤ s.tasks.length ∧ i3 = .int .i64 k ∧ Boxed w wr (.slice A s.tasks.length c) (.slice B s.stations.length d) ∧ Hid (errFrom (taskErr s.tasks) s.tasks.length 0 = errFrom (taskErr s.tasks) (s.tasks.length - k) k)) (fun i3 _ _ => s.tasks.length - (intOf i3).toNat)
    case atStart => exact ⟨0, Nat.zero_le _, rfl, hB0, Lib.hid rfl⟩
    case round =>
      clear hB0
      obtain ⟨k, hk, rfl, hB, H⟩ := hrel
      have k0 := hB.c0
      have k1 := hB.c1
      by_cases hlt : k < s.tasks.length
      · have hcall := law_checkTask s F _ wr k (hS.out wr hB.below) hlt
        have S := Lib.hid (errFrom_step (taskErr s.tasks) s.tasks.length k hlt)
        have hlt' : (k : Int) < (s.tasks.length : Int) := by omega
        generalize taskErr s.tasks k = e at *
        by_cases he : e = 0
        · subst he
          go_wp2_with (refine hcall.mono ?_; rintro e' w2 ⟨rfl, hb2⟩)
          go_roundw
          case rel => exact ⟨k+1, by omega, by go_num, hB.later hb2, Lib.hid (by rw [H.out, S.out]; simp)⟩
          case measure => simp [intOf]; omega
        · have ge : (e != 0) = true := by simpa using he
          have HX : R = e := by rw [HR.out, E0.out, H.out, S.out, if_neg he, if_neg he]
          subst HX
          clear he
          go_wp2_with (refine hcall.mono ?_; rintro e' w2 ⟨rfl, hb2⟩)
          go_ret
          exact ⟨rfl, (hB.later hb2).below⟩
      · have Z : errFrom (taskErr s.tasks) s.tasks.length 0 = 0 := by rw [H.out, show s.tasks.length - k = 0 by omega]; rfl
        have HR1 : Hid (R = R1) := Lib.hid (by rw [HR.out, E0.out, if_pos Z])
        have hok := afterOk_of _ Z
        have hup := afterUp_of _ Z
        have hal := after_len hok hup
        have hed := law_edges s F _ wr (hS.out wr hB.below) l1 hok hup (fun t ht => by have := hal t ht; omega)
        have HGO := Lib.hid (fun es hp hr => good_of (es := es) l1 hok hup hp hr)
        clear Z H HR E0 hok hup hal
        obtain ⟨W2, rfl⟩ : ∃ W2 : World, W2 = wr := ⟨_, rfl⟩
        go_wp2_with fail
        refine hed.mono ?_
        rintro e w3 ⟨es', gv, rfl, hP, hRi, hgr, hb3⟩
        have hB3 := hB.later hb3
        obtain ⟨g2, rfl, hgs⟩ := id hgr
        obtain ⟨gA, gc, rfl, _⟩ := hgs
        clear hed hb3 hB k0 k1
        go_wp2_with fail
        refine (graph_order s.tasks es' _ _ w3 hgr (HGO.out es' hP hRi) hP).mono ?_
        rintro e w4 ⟨ov, rfl, hb4⟩
        have hB4 := hB3.later hb4
        have HOE := Lib.hid (show ordErr s.tasks = if (orderOf s.tasks).length < s.tasks.length then 30 else 0 from rfl)
        clear hB3 hb4 HGO hgr
        have k0 := hB4.c0
        have k1 := hB4.c1
        by_cases hcy : (orderOf s.tasks).length < s.tasks.length
        · have ho : ordErr s.tasks = 30 := by rw [HOE.out, if_pos hcy]
          have HX : R = 30 := by rw [HR1.out, E1.out, if_pos hcy]
          subst HX
          rw [ho]
          clear ho hcy
          go_wp2_with fail
          go_ret
          exact ⟨rfl, hB4.below⟩
        · have ho : ordErr s.tasks = 0 := by rw [HOE.out, if_neg hcy]
          have HR2 : Hid (R = R2) := Lib.hid (by rw [HR1.out, E1.out, if_neg hcy])
          rw [ho]
          clear ho hcy HR1 E1 HOE
          go_wp2_with fail
          clear k0 k1
          go_loopw [7, 8] (fun i7 _ wr => ∃ k : Nat, k ≤ s.stations.length ∧ i7 = .int .i64 k ∧ Boxed w wr (.slice A s.tasks.length c) (.slice B s.stations.length d) ∧ Hid (errFrom (stationErr s.stations) s.stations.length 0 = errFrom (stationErr s.stations) (s.stations.length - k) k)) (fun i7 _ _ => s.stations.length - (intOf i7).toNat)
          case atStart => exact ⟨0, Nat.zero_le _, rfl, hB4, Lib.hid rfl⟩
          case round =>
            clear hB4
            obtain ⟨k, hk, rfl, hB, H⟩ := hrel
            have k0 := hB.c0
            have k1 := hB.c1
            by_cases hlt2 : k < s.stations.length
            · have hcall := law_checkStation s F _ wr k (hS.out wr hB.below) hlt2
              have S := Lib.hid (errFrom_step (stationErr s.stations) s.stations.length k hlt2)
              have hlt' : (k : Int) < (s.stations.length : Int) := by omega
              generalize stationErr s.stations k = e at *
              by_cases he : e = 0
              · subst he
                go_wp2_with (refine hcall.mono ?_; rintro e' w2 ⟨rfl, hb2⟩)
                go_roundw
                case rel => exact ⟨k+1, by omega, by go_num, hB.later hb2, Lib.hid (by rw [H.out, S.out]; simp)⟩
                case measure => simp [intOf]; omega
              · have ge : (e != 0) = true := by simpa using he
                have HX : R = e := by rw [HR2.out, E2.out, H.out, S.out, if_neg he, if_neg he]
                subst HX
                clear he
                go_wp2_with (refine hcall.mono ?_; rintro e' w2 ⟨rfl, hb2⟩)
                go_ret
                exact ⟨rfl, (hB.later hb2).below⟩
            · have Z : errFrom (stationErr s.stations) s.stations.length 0 = 0 := by rw [H.out, show s.stations.length - k = 0 by omega]; rfl
              have HR3 : Hid (R = R3) := Lib.hid (by rw [HR2.out, E2.out, if_pos Z])
              clear Z H HR2 E2
              obtain ⟨W3, rfl⟩ : ∃ W3 : World, W3 = wr := ⟨_, rfl⟩
              go_wp2_with fail
              clear k0 k1
              go_loopw [9] (fun i9 wr => ∃ k : Nat, k ≤ s.tasks.length ∧ i9 = .int .i64 k ∧ Boxed w wr (.slice A s.tasks.length c) (.slice B s.stations.length d) ∧ Hid (s.tasks.any (fun t => (toolsOf s.stations t.tool).isEmpty) = (s.tasks.drop k).any (fun t => (toolsOf s.stations t.tool).isEmpty))) (fun i9 _ => s.tasks.length - (intOf i9).toNat)
              case atStart => exact ⟨0, Nat.zero_le _, rfl, hB, Lib.hid rfl⟩
              case round =>
                clear hB
                obtain ⟨k, hk, rfl, hB, H⟩ := hrel
                have k0 := hB.c0
                have k1 := hB.c1
                by_cases hlt3 : k < s.tasks.length
                · have hcall := law_able s F _ wr k (hS.out wr hB.below) hlt3 (by omega)
                  have S := Lib.hid (any_step (fun t : Task => (toolsOf s.stations t.tool).isEmpty) s.tasks k hlt3)
                  have HA := Lib.hid (ableOf_nil s.stations s.tasks[k].tool)
                  have hlt' : (k : Int) < (s.tasks.length : Int) := by omega
                  generalize s.tasks[k] = t at *
                  generalize ableOf s.stations t.tool = l at *
                  cases l with
                  | nil =>
                    have HX : R = 10 := by rw [HR3.out, E3.out, if_pos (by rw [H.out, S.out, HA.out]; rfl)]
                    subst HX
                    go_wp2_with fail
                    refine hcall.mono ?_
                    rintro e w5 ⟨lv, rfl, hlo, hb5⟩
                    obtain ⟨lA, lc, rfl, _⟩ := hlo.slice
                    go_wp2_with fail
                    go_ret
                    exact ⟨rfl, (hB.later hb5).below⟩
                  | cons y ys =>
                    have gy : ((((y :: ys).length : Nat) : Int) == 0) = false := beq_eq_false_iff_ne.2 (by simp; omega)
                    go_wp2_with fail
                    refine hcall.mono ?_
                    rintro e w5 ⟨lv, rfl, hlo, hb5⟩
                    obtain ⟨lA, lc, rfl, _⟩ := hlo.slice
                    go_wp2_with fail
                    go_roundw
                    case rel => exact ⟨k+1, by omega, by go_num, hB.later hb5, Lib.hid (by rw [H.out, S.out, HA.out]; rfl)⟩
                    case measure => simp [intOf]; omega
                · have HX : R = 0 := by rw [HR3.out, E3.out, if_neg (by rw [H.out, List.drop_of_length_le (by omega)]; simp)]
                  subst HX
                  go_wp2_with fail
                  go_ret
                  exact ⟨rfl, hB.below⟩
end Go.Proofs.Ythigebbihclbiaa
