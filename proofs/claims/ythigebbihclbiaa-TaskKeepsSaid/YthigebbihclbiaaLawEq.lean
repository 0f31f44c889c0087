/- dowellaw49.same, sameTasks, sameShop. -/
import Derived.Test.YthigebbihclbiaaTaskEq
namespace Go.Proofs.Ythigebbihclbiaa
open Go.RowKit

set_option maxHeartbeats 400000 in
theorem law_same (v u : Value) (F G : Nat → Prop) (xs ys : List Int) (w : World) (h : Kd.int.Sl w F xs v) (g : Kd.int.Sl w G ys u) :
    Calls Try.prog 19 #[v, u] w fun e w' => e = .returned (.bool (eqBy ieq xs ys)) ∧ Drawn w w' := by
  obtain ⟨A, c, rfl, hc1, hc2, hr⟩ := h
  obtain ⟨B, d, rfl, hd1, hd2, hs⟩ := g
  by_cases hl : xs.length = ys.length
  · have HL := Lib.hid hl
    have hne : ((xs.length : Int) != (ys.length : Int)) = false := by simp [hl]
    clear hl
    go_enter Try.func19, Try.ntmps19
    go_wp2
    go_loopw [5] (fun i wr => ∃ k : Nat, k ≤ xs.length ∧ i = .int .i64 k ∧ Drawn w wr ∧ Hid (eqBy ieq xs ys = eqBy ieq (xs.drop k) (ys.drop k))) (fun i _ => xs.length - (intOf i).toNat)
    case atStart => exact ⟨0, Nat.zero_le _, rfl, Drawn.refl _, Lib.hid rfl⟩
    case round =>
      obtain ⟨k, hk, rfl, hd, H⟩ := hrel
      by_cases hlt : k < xs.length
      · have hlt2 : k < ys.length := by rw [← HL.out]; exact hlt
        obtain ⟨b, o, rfl, _, _, c0⟩ := int_at (hr.keep (hd.agree _)) k hlt
        obtain ⟨b', o', rfl, _, _, c1⟩ := int_at (hs.keep (hd.agree _)) k hlt2
        have S := Lib.hid (eqBy_step ieq xs ys k hlt hlt2)
        have hlt' : (k : Int) < (xs.length : Int) := by omega
        have hlt2' : (k : Int) < (ys.length : Int) := by omega
        clear hr hs
        generalize xs[k] = x at *
        generalize ys[k] = y at *
        by_cases hxy : x = y
        · subst hxy
          go_wp2
          go_quiet (fail)
          go_wp2
          go_roundw
          case rel => exact ⟨k+1, by omega, by go_num, hd.step _, Lib.hid (by rw [H.out, S.out]; simp [ieq])⟩
          case measure => simp [intOf]; omega
        · have hb : (x != y) = true := by simpa using hxy
          have HX := Lib.hid hxy
          clear hxy
          go_wp2
          go_quiet (fail)
          go_wp2
          go_ret
          refine ⟨ret_bool ?_, hd.step _⟩
          rw [H.out, S.out]; simp [ieq, HX.out]
      · go_wp2
        go_ret
        refine ⟨ret_bool ?_, hd⟩
        rw [H.out, eqBy_end _ _ _ _ (by omega) (by rw [← HL.out]; omega)]
  · have hne : ((xs.length : Int) != (ys.length : Int)) = true := by rw [bne_iff_ne]; omega
    have HL := Lib.hid (eqBy_len ieq xs ys hl)
    clear hl
    go_enter Try.func19, Try.ntmps19
    go_wp2
    go_ret
    exact ⟨ret_bool HL.out.symm, Drawn.refl _⟩

set_option maxHeartbeats 1000000 in
theorem law_sameTasks (v u : Value) (F G : Nat → Prop) (xs ys : List Task) (w : World) (h : Kd.task.Sl w F xs v) (g : Kd.task.Sl w G ys u) :
    Calls Try.prog 37 #[v, u] w fun e w' => e = .returned (.bool (eqBy eqT xs ys)) ∧ Drawn w w' := by
  obtain ⟨A, c, rfl, hc1, hc2, hr⟩ := h
  obtain ⟨B, d, rfl, hd1, hd2, hs⟩ := g
  by_cases hl : xs.length = ys.length
  · have HL := Lib.hid hl
    have hne : ((xs.length : Int) != (ys.length : Int)) = false := by simp [hl]
    clear hl
    go_enter Try.func37, Try.ntmps37
    go_wp2
    go_loopw [5] (fun i wr => ∃ k : Nat, k ≤ xs.length ∧ i = .int .i64 k ∧ Drawn w wr ∧ Hid (eqBy eqT xs ys = eqBy eqT (xs.drop k) (ys.drop k))) (fun i _ => xs.length - (intOf i).toNat)
    case atStart => exact ⟨0, Nat.zero_le _, rfl, Drawn.refl _, Lib.hid rfl⟩
    case round =>
      obtain ⟨k, hk, rfl, hd, H⟩ := hrel
      by_cases hlt : k < xs.length
      · have hlt2 : k < ys.length := by rw [← HL.out]; exact hlt
        obtain ⟨b, o, A1, a1, rfl, _, _, c0, c1, c2, c3, hK1⟩ := task_at (hr.keep (hd.agree _)) k hlt
        obtain ⟨b2, o2, A2, a2, rfl, _, _, d0, d1, d2, d3, hK2⟩ := task_at (hs.keep (hd.agree _)) k hlt2
        have S := Lib.hid (eqBy_step eqT xs ys k hlt hlt2)
        have hlt' : (k : Int) < (xs.length : Int) := by omega
        have hlt2' : (k : Int) < (ys.length : Int) := by omega
        clear hr hs
        generalize xs[k] = x at *
        generalize ys[k] = y at *
        have hcall := fun n => law_same _ _ F G x.after y.after (wr.drewN n) ((Kd.K_after hK1).keep ((Drawn.of wr n).agree _)) ((Kd.K_after hK2).keep ((Drawn.of wr n).agree _))
        have Q := fun (e : eqT x y = true) (n : Nat) (_ : Nat) => (⟨k+1, by omega, by go_num, hd.step n, Lib.hid (by rw [H.out, S.out, e, Bool.true_and])⟩ : ∃ k_1 : Nat, k_1 ≤ xs.length ∧ Value.int .i64 ((k : Int) + 1) = .int .i64 k_1 ∧ Drawn w (wr.drewN n) ∧ Hid (eqBy eqT xs ys = eqBy eqT (xs.drop k_1) (ys.drop k_1)))
        have Z : eqT x y = false → eqBy eqT xs ys = false := fun e => by rw [H.out, S.out, e, Bool.false_and]
        have HZ := Lib.hid Z
        have HQ := Lib.hid Q
        have HE := Lib.hid (show eqT x y = (seq x.name y.name && (ieq x.dur y.dur && (seq x.tool y.tool && eqBy ieq x.after y.after))) from rfl)
        clear Z Q S H hK1 hK2
        cases p1 : seq x.name y.name with
        | false =>
          have t1 : (!x.name.toList == y.name.toList) = true := by simpa [seq] using p1
          rw [p1] at HE
          clear p1
          go_wp2
          go_quiet (fail)
          go_wp2
          go_ret
          exact ⟨ret_bool (HZ.out HE.out).symm, hd.step _⟩
        | true =>
          have t1 : (!x.name.toList == y.name.toList) = false := by simpa [seq] using p1
          rw [p1] at HE
          clear p1
          cases p2 : ieq x.dur y.dur with
          | false =>
            have t2 : (x.dur != y.dur) = true := by simpa [ieq] using p2
            rw [p2] at HE
            clear p2
            go_wp2
            go_quiet (fail)
            go_wp2
            go_ret
            exact ⟨ret_bool (HZ.out HE.out).symm, hd.step _⟩
          | true =>
            have t2 : (x.dur != y.dur) = false := by simpa [ieq] using p2
            rw [p2] at HE
            clear p2
            cases p3 : seq x.tool y.tool with
            | false =>
              have t3 : (!x.tool.toList == y.tool.toList) = true := by simpa [seq] using p3
              rw [p3] at HE
              clear p3
              go_wp2
              go_quiet (fail)
              go_wp2
              go_ret
              exact ⟨ret_bool (HZ.out HE.out).symm, hd.step _⟩
            | true =>
              have t3 : (!x.tool.toList == y.tool.toList) = false := by simpa [seq] using p3
              rw [p3] at HE
              clear p3
              cases p4 : eqBy ieq x.after y.after with
              | false =>
                rw [p4] at HE hcall
                clear p4
                go_wp2
                go_quiet ((go_at_call 19; exact quiet_first (hcall _)))
                go_wp2
                go_ret
                exact ⟨ret_bool (HZ.out HE.out).symm, hd.step _⟩
              | true =>
                rw [p4] at HE hcall
                clear p4
                go_wp2
                go_quiet ((go_at_call 19; exact quiet_first (hcall _)))
                go_wp2
                go_roundw
                case rel => exact HQ.out HE.out _ 0
                case measure => simp [intOf]; omega
      · go_wp2
        go_ret
        refine ⟨ret_bool ?_, hd⟩
        rw [H.out, eqBy_end _ _ _ _ (by omega) (by rw [← HL.out]; omega)]
  · have hne : ((xs.length : Int) != (ys.length : Int)) = true := by rw [bne_iff_ne]; omega
    have HL := Lib.hid (eqBy_len eqT xs ys hl)
    clear hl
    go_enter Try.func37, Try.ntmps37
    go_wp2
    go_ret
    exact ⟨ret_bool HL.out.symm, Drawn.refl _⟩
end Go.Proofs.Ythigebbihclbiaa
