/- dowellaw49.checkTask. -/
import Derived.Test.YthigebbihclbiaaTaskErr
namespace Go.Proofs.Ythigebbihclbiaa
open Go.RowKit

set_option maxHeartbeats 2000000 in
theorem law_checkTask (s : Shop) (F : Nat → Prop) (v : Value) (w : World) (i : Nat) (h : ShopAt w F s v) (hi : i < s.tasks.length) :
    Calls Try.prog 38 #[v, .int .i64 i] w fun e w' => e = .returned (.int .i64 (taskErr s.tasks i)) ∧ Below w.heap.size w w' := by
  obtain ⟨v1, v2, rfl, h1, h2⟩ := h
  obtain ⟨A, c, rfl, hc1, hc2, hr⟩ := h1
  obtain ⟨b, o, A1, a1, rfl, hF, hl, c0, c1, c2, c3, hK⟩ := task_at hr i hi
  have HE := Lib.hid (show taskErr s.tasks i = taskErr1 s.tasks i s.tasks[i] by rw [taskErr, List.getElem?_eq_getElem hi])
  generalize taskErr s.tasks i = R at *
  generalize s.tasks = ts at *
  obtain ⟨hz1, hz2⟩ := Kd.K_tsize hK
  have hi' : (i : Int) < (ts.length : Int) := by omega
  generalize ts[i] = t at *
  have hn1 := fun W => lawname_calls t.name W hz1
  have hn2 := fun W => lawname_calls t.tool W hz2
  cases p1 : nameOk t.name with
  | false =>
    have E := Lib.hid (show taskErr1 ts i t = 11 by rw [taskErr1, if_pos p1])
    rw [p1] at hn1
    clear p1 hn2
    go_enter Try.func38, Try.ntmps38
    go_wp2_with (refine (hn1 _).mono ?_; rintro e w1 ⟨rfl, rfl⟩)
    go_ret
    exact ⟨ret_int (by rw [HE.out, E.out]), below_two _ _ _⟩
  | true =>
    rw [p1] at hn1
    have P1 := Lib.hid p1
    clear p1
    go_enter Try.func38, Try.ntmps38
    go_wp2_with (refine (hn1 _).mono ?_; rintro e w1 ⟨rfl, rfl⟩)
    go_loopw [6] (fun i6 wr => ∃ k : Nat, k ≤ i ∧ i6 = .int .i64 k ∧ Drawn ((w.alloc (.cells #[.slice (some ⟨b, o, none⟩) ts.length c, v2] 25)).alloc (.cells #[.string t.name, .int .i64 t.dur, .string t.tool, .slice A1 t.after.length a1] 42)) wr ∧
      Hid ((ts.take i).any (fun x => seq x.name t.name) = ((ts.take i).drop k).any (fun x => seq x.name t.name))) (fun i6 _ => i - (intOf i6).toNat)
    case atStart => exact ⟨0, Nat.zero_le _, rfl, Drawn.refl _, Lib.hid rfl⟩
    case round =>
      obtain ⟨k, hk, rfl, hd, H⟩ := hrel
      have hb := hd.below (w.heap.size + 2)
      have k0 : wr.cell? ⟨w.heap.size, 0, none⟩ = some (.slice (some ⟨b, o, none⟩) ts.length c) := by rw [hb.cell (by simp)]; go_simp
      have k00 : wr.cell? ⟨w.heap.size + 1, 0, none⟩ = some (.string t.name) := by rw [hb.cell (by simp)]; go_simp
      have k1 : wr.cell? ⟨w.heap.size + 1, 1, none⟩ = some (.int .i64 t.dur) := by rw [hb.cell (by simp)]; go_simp
      have k2 : wr.cell? ⟨w.heap.size + 1, 2, none⟩ = some (.string t.tool) := by rw [hb.cell (by simp)]; go_simp
      have k3 : wr.cell? ⟨w.heap.size + 1, 3, none⟩ = some (.slice A1 t.after.length a1) := by rw [hb.cell (by simp)]; go_simp
      have hbW2 := below_then (below_two _ _ _) (by simp; omega) (hd.below _)
      have hz4 : w.heap.size + 1 < wr.heap.size := by have := hb.size; simp at this; omega
      clear hb c0 c1 c2 c3
      by_cases hlt : k < i
      · have hlt2 : k < ts.length := by omega
        obtain ⟨b5, o5, A5, a5, he5, _, hl5, d0, d1, d2, d3, _⟩ := task_at (hr.keep (Agree.below hbW2)) k hlt2
        obtain ⟨rfl, rfl⟩ : b = b5 ∧ o = o5 := by simpa using he5
        have S := any_step (fun x => seq x.name t.name) (ts.take i) k (by rw [List.length_take]; omega)
        rw [List.getElem_take] at S
        have hlt' : (k : Int) < (ts.length : Int) := by omega
        have hlt'' : (k : Int) < (i : Int) := by omega
        generalize ts[k] = x at *
        clear hr d1 d2 d3 he5 k1 k2 k3 hn1 hn2
        cases p2 : seq x.name t.name with
        | true =>
          have t1 : (x.name.toList == t.name.toList) = true := p2
          simp only [p2, Bool.true_or] at S
          have SH := Lib.hid S
          clear S p2
          have E := Lib.hid (show taskErr1 ts i t = 9 by rw [taskErr1, if_neg (by rw [P1.out]; simp), if_pos (by rw [H.out, SH.out])])
          go_wp2_with fail
          go_quiet (fail)
          go_wp2_with fail
          go_ret
          exact ⟨ret_int (by rw [HE.out, E.out]), below_drewN hbW2 _⟩
        | false =>
          have t1 : (x.name.toList == t.name.toList) = false := p2
          simp only [p2, Bool.false_or] at S
          have SH := Lib.hid S
          clear S p2
          go_wp2_with fail
          go_quiet (fail)
          go_wp2_with fail
          go_roundw
          case rel => exact ⟨k+1, by omega, by go_num, hd.step _, Lib.hid (by rw [H.out, SH.out])⟩
          case measure => simp [intOf]; omega
      · have E := Lib.hid (show taskErr1 ts i t = if t.dur < 1 ∨ 1048576 < t.dur then 2 else if isEmpty t.tool = false ∧ nameOk t.tool = false then 11 else afterErr ts.length i none t.after by
          rw [taskErr1, if_neg (by rw [P1.out]; simp), if_neg (by rw [H.out, List.drop_of_length_le (by rw [List.length_take]; omega)]; simp)])
        have hA := (Kd.K_after hK).keep (Agree.below hbW2)
        clear P1 H hn1
        clear hd
        obtain ⟨W, rfl⟩ : ∃ W : World, W = wr := ⟨_, rfl⟩
        by_cases hdur : t.dur < 1 ∨ 1048576 < t.dur
        · have E2 := Lib.hid (E.out.trans (if_pos hdur))
          clear hn2
          go_wp2_with fail
          all_goals first
          | (go_ret; exact ⟨ret_int (by rw [HE.out, E2.out]), hbW2⟩)
          | (exfalso; omega)
        · have E2 := Lib.hid (E.out.trans (if_neg hdur))
          have q1 : 1 ≤ t.dur := by omega
          have q2 : t.dur ≤ 1048576 := by omega
          clear hdur E
          cases te : isEmpty t.tool with
          | false =>
            have q3 : (t.tool.toList.isEmpty) = false := te
            have q4 : (!t.tool.toList.isEmpty) = true := by rw [q3]; rfl
            have q5 : ¬ t.tool.toList = [] := by intro e; rw [e] at q3; cases q3
            have TE := Lib.hid te
            clear te
            cases p3 : nameOk t.tool with
            | false =>
              have E3 := Lib.hid (E2.out.trans (if_pos ⟨TE.out, p3⟩))
              rw [p3] at hn2
              clear p3
              go_wp2_with (refine (hn2 _).mono ?_; rintro e w3 ⟨rfl, rfl⟩)
              go_ret
              exact ⟨ret_int (by rw [HE.out, E3.out]), hbW2⟩
            | true =>
              have E3 := Lib.hid (E2.out.trans (if_neg (by rw [p3]; simp)))
              rw [p3] at hn2
              clear p3
              go_wp2_with (refine (hn2 _).mono ?_; rintro e w3 ⟨rfl, rfl⟩)
              clear hn2 k1 k2 q3 q4 q5
              obtain ⟨A2, a2, he, ha1, ha2, hra⟩ := hA
              obtain ⟨rfl, _, rfl⟩ := Value.slice.inj he
              clear he
              generalize t.after = l at *
              go_loopw [7] (fun i7 wr => ∃ k : Nat, k ≤ l.length ∧ i7 = .int .i64 k ∧ Drawn W wr ∧ Hid (R = afterErr ts.length i (prevOf l k) (l.drop k))) (fun i7 _ => l.length - (intOf i7).toNat)
              case atStart => exact ⟨0, Nat.zero_le _, rfl, Drawn.refl _, Lib.hid (by rw [HE.out, E3.out]; rfl)⟩
              case round =>
                obtain ⟨k, hk, rfl, hd, H⟩ := hrel
                have hb := hd.below W.heap.size
                replace k0 := (hb.cell (by simp; omega)).trans k0
                replace k3 := (hb.cell (by simp; omega)).trans k3
                have hbw := below_then hbW2 hbW2.size hb
                by_cases hlt : k < l.length
                · obtain ⟨b5, o5, rfl, _, _, d0⟩ := int_at (hra.keep (hd.agree _)) k hlt
                  have hlt' : (k : Int) < (l.length : Int) := by omega
                  have HS : Hid ((k = 0 ∧ afterErr ts.length i (prevOf l k) (l.drop k) = if l[k] < 0 ∨ (ts.length : Int) ≤ l[k] then 2 else if l[k] = i then 17 else afterErr ts.length i (prevOf l (k+1)) (l.drop (k+1))) ∨
                      (0 < k ∧ afterErr ts.length i (prevOf l k) (l.drop k) = if l[k] < 0 ∨ (ts.length : Int) ≤ l[k] then 2 else if l[k] = i then 17 else if l[k] ≤ l.getD (k-1) 0 then 8 else afterErr ts.length i (prevOf l (k+1)) (l.drop (k+1)))) := by
                    apply Lib.hid
                    rcases Nat.eq_zero_or_pos k with h0 | hp
                    · exact .inl ⟨h0, after_zero ts.length i l k h0 hlt⟩
                    · obtain ⟨j, rfl⟩ : ∃ j, k = j + 1 := ⟨k - 1, by omega⟩
                      refine .inr ⟨hp, ?_⟩
                      rw [after_step ts.length i l j hlt]
                      simp [show j < l.length by omega]
                  have hprev : Hid (0 < k → wr.cell? ⟨b5, o5 + (k - 1), none⟩ = some (.int .i64 (l.getD (k-1) 0))) := by
                    refine Lib.hid fun hp => ?_
                    obtain ⟨b6, o6, he6, _, _, d1⟩ := int_at (hra.keep (hd.agree _)) (k - 1) (by omega)
                    obtain ⟨rfl, rfl⟩ : b5 = b6 ∧ o5 = o6 := by simpa using he6
                    rw [d1]
                    simp [show k - 1 < l.length by omega]
                  generalize l[k] = x at *
                  clear hra
                  -- the tests, one behind the other
                  by_cases hx1 : x < 0
                  · have S : Hid (R = 2) := Lib.hid (by rw [H.out]; rcases HS.out with ⟨_, e⟩ | ⟨_, e⟩ <;> rw [e, if_pos (by omega)])
                    have e1 : decide (x < 0) = true := decide_eq_true hx1
                    go_wp2_with fail
                    go_quiet (fail)
                    go_wp2_with fail
                    go_ret
                    first | exact ⟨ret_int S.out.symm, below_drewN hbw _⟩ | exact ⟨ret_int S.out.symm, below_drewN (below_drewN hbw _) _⟩
                  · have e1 : decide (x < 0) = false := decide_eq_false hx1
                    by_cases hx2 : (ts.length : Int) ≤ x
                    · have S : Hid (R = 2) := Lib.hid (by rw [H.out]; rcases HS.out with ⟨_, e⟩ | ⟨_, e⟩ <;> rw [e, if_pos (by omega)])
                      have e2 : decide ((ts.length : Int) ≤ x) = true := decide_eq_true hx2
                      go_wp2_with fail
                      go_quiet (fail)
                      go_wp2_with fail
                      go_ret
                      first | exact ⟨ret_int S.out.symm, below_drewN hbw _⟩ | exact ⟨ret_int S.out.symm, below_drewN (below_drewN hbw _) _⟩
                    · have e2 : decide ((ts.length : Int) ≤ x) = false := decide_eq_false hx2
                      by_cases hx3 : x = (i : Int)
                      · have S : Hid (R = 17) := Lib.hid (by rw [H.out]; rcases HS.out with ⟨_, e⟩ | ⟨_, e⟩ <;> rw [e, if_neg (by omega), if_pos hx3])
                        have e3 : (x == (i : Int)) = true := beq_iff_eq.2 hx3
                        clear hx3
                        go_wp2_with fail
                        go_quiet (fail)
                        go_wp2_with fail
                        go_ret
                        first | exact ⟨ret_int S.out.symm, below_drewN hbw _⟩ | exact ⟨ret_int S.out.symm, below_drewN (below_drewN hbw _) _⟩
                      · have e3 : (x == (i : Int)) = false := beq_eq_false_iff_ne.2 hx3
                        have HX := Lib.hid hx3
                        clear hx3
                        rcases Nat.eq_zero_or_pos k with h0 | hp
                        · have S : Hid (R = afterErr ts.length i (prevOf l (k+1)) (l.drop (k+1))) := Lib.hid (by rw [H.out]; rcases HS.out with ⟨_, e⟩ | ⟨h, e⟩; rw [e, if_neg (by omega), if_neg HX.out]; omega)
                          have g0 : ¬ 0 < k := by omega
                          have g1 : decide (0 < k) = false := decide_eq_false g0
                          have g2 : decide (0 < (k : Int)) = false := decide_eq_false (by omega)
                          clear h0
                          go_wp2_with fail
                          go_quiet (fail)
                          go_wp2_with fail
                          go_quiet (fail)
                          go_wp2_with fail
                          go_roundw
                          case rel => exact ⟨k+1, by omega, by go_num, (hd.step _), S⟩
                          case measure => simp [intOf]; omega
                        · have d1 := hprev.out hp
                          have g1 : decide (0 < k) = true := decide_eq_true hp
                          have g2 : decide (0 < (k : Int)) = true := decide_eq_true (by omega)
                          have g3 : (0 : Int) ≤ (k : Int) - 1 := by omega
                          have g4 : (k : Int) - 1 < (l.length : Int) := by omega
                          have g5 : ((k : Int) - 1).toNat = k - 1 := by omega
                          generalize l.getD (k-1) 0 = y at *
                          by_cases hx4 : x ≤ y
                          · have S : Hid (R = 8) := Lib.hid (by rw [H.out]; rcases HS.out with ⟨h, e⟩ | ⟨_, e⟩; omega; rw [e, if_neg (by omega), if_neg HX.out, if_pos hx4])
                            have e4 : decide (x ≤ y) = true := decide_eq_true hx4
                            go_wp2_with fail
                            go_quiet (fail)
                            go_wp2_with fail
                            go_quiet (fail)
                            go_wp2_with fail
                            go_ret
                            first | exact ⟨ret_int S.out.symm, below_drewN hbw _⟩ | exact ⟨ret_int S.out.symm, below_drewN (below_drewN hbw _) _⟩
                          · have S : Hid (R = afterErr ts.length i (prevOf l (k+1)) (l.drop (k+1))) := Lib.hid (by rw [H.out]; rcases HS.out with ⟨h, e⟩ | ⟨_, e⟩; omega; rw [e, if_neg (by omega), if_neg HX.out, if_neg hx4])
                            have e4 : decide (x ≤ y) = false := decide_eq_false hx4
                            go_wp2_with fail
                            go_quiet (fail)
                            go_wp2_with fail
                            go_quiet (fail)
                            go_wp2_with fail
                            go_roundw
                            case rel => exact ⟨k+1, by omega, by go_num, (hd.step _), S⟩
                            case measure => simp [intOf]; omega
                · go_wp2_with fail
                  go_ret
                  exact ⟨ret_int (by rw [H.out, after_end _ _ _ _ _ (by omega)]), hbw⟩
          | true =>
            have q3 : (t.tool.toList.isEmpty) = true := te
            have q4 : (!t.tool.toList.isEmpty) = false := by rw [q3]; rfl
            have q5 : t.tool.toList = [] := List.isEmpty_iff.1 q3
            have E3 := Lib.hid (E2.out.trans (if_neg (by rw [te]; simp)))
            clear te hn2 q5
            go_wp2_with fail
            obtain ⟨A2, a2, he, ha1, ha2, hra⟩ := hA
            obtain ⟨rfl, _, rfl⟩ := Value.slice.inj he
            clear he
            generalize t.after = l at *
            go_loopw [7] (fun i7 wr => ∃ k : Nat, k ≤ l.length ∧ i7 = .int .i64 k ∧ Drawn W wr ∧ Hid (R = afterErr ts.length i (prevOf l k) (l.drop k))) (fun i7 _ => l.length - (intOf i7).toNat)
            case atStart => exact ⟨0, Nat.zero_le _, rfl, Drawn.refl _, Lib.hid (by rw [HE.out, E3.out]; rfl)⟩
            case round =>
              obtain ⟨k, hk, rfl, hd, H⟩ := hrel
              have hb := hd.below W.heap.size
              replace k0 := (hb.cell (by simp; omega)).trans k0
              replace k3 := (hb.cell (by simp; omega)).trans k3
              have hbw := below_then hbW2 hbW2.size hb
              by_cases hlt : k < l.length
              · obtain ⟨b5, o5, rfl, _, _, d0⟩ := int_at (hra.keep (hd.agree _)) k hlt
                have hlt' : (k : Int) < (l.length : Int) := by omega
                have HS : Hid ((k = 0 ∧ afterErr ts.length i (prevOf l k) (l.drop k) = if l[k] < 0 ∨ (ts.length : Int) ≤ l[k] then 2 else if l[k] = i then 17 else afterErr ts.length i (prevOf l (k+1)) (l.drop (k+1))) ∨
                    (0 < k ∧ afterErr ts.length i (prevOf l k) (l.drop k) = if l[k] < 0 ∨ (ts.length : Int) ≤ l[k] then 2 else if l[k] = i then 17 else if l[k] ≤ l.getD (k-1) 0 then 8 else afterErr ts.length i (prevOf l (k+1)) (l.drop (k+1)))) := by
                  apply Lib.hid
                  rcases Nat.eq_zero_or_pos k with h0 | hp
                  · exact .inl ⟨h0, after_zero ts.length i l k h0 hlt⟩
                  · obtain ⟨j, rfl⟩ : ∃ j, k = j + 1 := ⟨k - 1, by omega⟩
                    refine .inr ⟨hp, ?_⟩
                    rw [after_step ts.length i l j hlt]
                    simp [show j < l.length by omega]
                have hprev : Hid (0 < k → wr.cell? ⟨b5, o5 + (k - 1), none⟩ = some (.int .i64 (l.getD (k-1) 0))) := by
                  refine Lib.hid fun hp => ?_
                  obtain ⟨b6, o6, he6, _, _, d1⟩ := int_at (hra.keep (hd.agree _)) (k - 1) (by omega)
                  obtain ⟨rfl, rfl⟩ : b5 = b6 ∧ o5 = o6 := by simpa using he6
                  rw [d1]
                  simp [show k - 1 < l.length by omega]
                generalize l[k] = x at *
                clear hra
                -- the tests, one behind the other
                by_cases hx1 : x < 0
                · have S : Hid (R = 2) := Lib.hid (by rw [H.out]; rcases HS.out with ⟨_, e⟩ | ⟨_, e⟩ <;> rw [e, if_pos (by omega)])
                  have e1 : decide (x < 0) = true := decide_eq_true hx1
                  go_wp2_with fail
                  go_quiet (fail)
                  go_wp2_with fail
                  go_ret
                  first | exact ⟨ret_int S.out.symm, below_drewN hbw _⟩ | exact ⟨ret_int S.out.symm, below_drewN (below_drewN hbw _) _⟩
                · have e1 : decide (x < 0) = false := decide_eq_false hx1
                  by_cases hx2 : (ts.length : Int) ≤ x
                  · have S : Hid (R = 2) := Lib.hid (by rw [H.out]; rcases HS.out with ⟨_, e⟩ | ⟨_, e⟩ <;> rw [e, if_pos (by omega)])
                    have e2 : decide ((ts.length : Int) ≤ x) = true := decide_eq_true hx2
                    go_wp2_with fail
                    go_quiet (fail)
                    go_wp2_with fail
                    go_ret
                    first | exact ⟨ret_int S.out.symm, below_drewN hbw _⟩ | exact ⟨ret_int S.out.symm, below_drewN (below_drewN hbw _) _⟩
                  · have e2 : decide ((ts.length : Int) ≤ x) = false := decide_eq_false hx2
                    by_cases hx3 : x = (i : Int)
                    · have S : Hid (R = 17) := Lib.hid (by rw [H.out]; rcases HS.out with ⟨_, e⟩ | ⟨_, e⟩ <;> rw [e, if_neg (by omega), if_pos hx3])
                      have e3 : (x == (i : Int)) = true := beq_iff_eq.2 hx3
                      clear hx3
                      go_wp2_with fail
                      go_quiet (fail)
                      go_wp2_with fail
                      go_ret
                      first | exact ⟨ret_int S.out.symm, below_drewN hbw _⟩ | exact ⟨ret_int S.out.symm, below_drewN (below_drewN hbw _) _⟩
                    · have e3 : (x == (i : Int)) = false := beq_eq_false_iff_ne.2 hx3
                      have HX := Lib.hid hx3
                      clear hx3
                      rcases Nat.eq_zero_or_pos k with h0 | hp
                      · have S : Hid (R = afterErr ts.length i (prevOf l (k+1)) (l.drop (k+1))) := Lib.hid (by rw [H.out]; rcases HS.out with ⟨_, e⟩ | ⟨h, e⟩; rw [e, if_neg (by omega), if_neg HX.out]; omega)
                        have g0 : ¬ 0 < k := by omega
                        have g1 : decide (0 < k) = false := decide_eq_false g0
                        have g2 : decide (0 < (k : Int)) = false := decide_eq_false (by omega)
                        clear h0
                        go_wp2_with fail
                        go_quiet (fail)
                        go_wp2_with fail
                        go_quiet (fail)
                        go_wp2_with fail
                        go_roundw
                        case rel => exact ⟨k+1, by omega, by go_num, (hd.step _), S⟩
                        case measure => simp [intOf]; omega
                      · have d1 := hprev.out hp
                        have g1 : decide (0 < k) = true := decide_eq_true hp
                        have g2 : decide (0 < (k : Int)) = true := decide_eq_true (by omega)
                        have g3 : (0 : Int) ≤ (k : Int) - 1 := by omega
                        have g4 : (k : Int) - 1 < (l.length : Int) := by omega
                        have g5 : ((k : Int) - 1).toNat = k - 1 := by omega
                        generalize l.getD (k-1) 0 = y at *
                        by_cases hx4 : x ≤ y
                        · have S : Hid (R = 8) := Lib.hid (by rw [H.out]; rcases HS.out with ⟨h, e⟩ | ⟨_, e⟩; omega; rw [e, if_neg (by omega), if_neg HX.out, if_pos hx4])
                          have e4 : decide (x ≤ y) = true := decide_eq_true hx4
                          go_wp2_with fail
                          go_quiet (fail)
                          go_wp2_with fail
                          go_quiet (fail)
                          go_wp2_with fail
                          go_ret
                          first | exact ⟨ret_int S.out.symm, below_drewN hbw _⟩ | exact ⟨ret_int S.out.symm, below_drewN (below_drewN hbw _) _⟩
                        · have S : Hid (R = afterErr ts.length i (prevOf l (k+1)) (l.drop (k+1))) := Lib.hid (by rw [H.out]; rcases HS.out with ⟨h, e⟩ | ⟨_, e⟩; omega; rw [e, if_neg (by omega), if_neg HX.out, if_neg hx4])
                          have e4 : decide (x ≤ y) = false := decide_eq_false hx4
                          go_wp2_with fail
                          go_quiet (fail)
                          go_wp2_with fail
                          go_quiet (fail)
                          go_wp2_with fail
                          go_roundw
                          case rel => exact ⟨k+1, by omega, by go_num, (hd.step _), S⟩
                          case measure => simp [intOf]; omega
              · go_wp2_with fail
                go_ret
                exact ⟨ret_int (by rw [H.out, after_end _ _ _ _ _ (by omega)]), hbw⟩
end Go.Proofs.Ythigebbihclbiaa
