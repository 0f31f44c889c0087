/- dowellaw49.checkStation. -/
import Derived.Test.YthigebbihclbiaaStation
namespace Go.Proofs.Ythigebbihclbiaa
open Go.RowKit

theorem leq_total : ∀ (x y : List UInt8), (Op.bytesLess x y || x == y) = !Op.bytesLess y x
  | [], [] => rfl
  | [], _ :: _ => rfl
  | _ :: _, [] => rfl
  | a :: x, b :: y => by
    have ih := leq_total x y
    have hab : a < b ∨ a = b ∨ b < a := by
      rcases Nat.lt_trichotomy a.toNat b.toNat with h | h | h
      · exact .inl (UInt8.lt_iff_toNat_lt.2 h)
      · exact .inr (.inl (UInt8.toNat_inj.1 h))
      · exact .inr (.inr (UInt8.lt_iff_toNat_lt.2 h))
    simp only [Op.bytesLess, List.cons_beq_cons]
    rcases hab with h | rfl | h
    · have h1 : ¬ b < a := fun h' => by rw [UInt8.lt_iff_toNat_lt] at h h'; omega
      have h2 : ¬ b = a := fun h' => by rw [UInt8.lt_iff_toNat_lt, h'] at h; omega
      simp [h, h1, h2]
    · have h1 : ¬ a < a := fun h' => by rw [UInt8.lt_iff_toNat_lt] at h'; omega
      simpa [h1] using ih
    · have h1 : ¬ a < b := fun h' => by rw [UInt8.lt_iff_toNat_lt] at h h'; omega
      have h2 : ¬ a = b := fun h' => by rw [UInt8.lt_iff_toNat_lt, h'] at h; omega
      simp [h, h1, h2]

set_option maxHeartbeats 1000000 in
theorem law_checkStation (s : Shop) (F : Nat → Prop) (v : Value) (w : World) (i : Nat) (h : ShopAt w F s v) (hi : i < s.stations.length) :
    Calls Try.prog 41 #[v, .int .i64 i] w fun e w' => e = .returned (.int .i64 (stationErr s.stations i)) ∧ Below w.heap.size w w' := by
  obtain ⟨v1, v2, rfl, h1, h2⟩ := h
  obtain ⟨A, c, rfl, hc1, hc2, hr⟩ := h2
  obtain ⟨b, o, A1, a1, rfl, hF, hl, c0, c1, hK⟩ := station_at hr i hi
  have HE := Lib.hid (show stationErr s.stations i = stationErr1 s.stations i s.stations[i] by rw [stationErr, List.getElem?_eq_getElem hi])
  generalize stationErr s.stations i = R at *
  generalize s.stations = ts at *
  have hz1 := Kd.K_ssize hK
  have hi' : (i : Int) < (ts.length : Int) := by omega
  generalize ts[i] = t at *
  have hn1 := fun W => lawname_calls t.name W hz1
  cases p1 : nameOk t.name with
  | false =>
    have E := Lib.hid (show stationErr1 ts i t = 11 by rw [stationErr1, if_pos p1])
    rw [p1] at hn1
    clear p1
    go_enter Try.func41, Try.ntmps41
    go_wp2_with (refine (hn1 _).mono ?_; rintro e w1 ⟨rfl, rfl⟩)
    go_ret
    exact ⟨ret_int (by rw [HE.out, E.out]), below_two _ _ _⟩
  | true =>
    rw [p1] at hn1
    have P1 := Lib.hid p1
    clear p1
    go_enter Try.func41, Try.ntmps41
    go_wp2_with (refine (hn1 _).mono ?_; rintro e w1 ⟨rfl, rfl⟩)
    go_loopw [6] (fun i6 wr => ∃ k : Nat, k ≤ i ∧ i6 = .int .i64 k ∧ Drawn ((w.alloc (.cells #[v1, .slice (some ⟨b, o, none⟩) ts.length c] 25)).alloc (.cells #[.string t.name, .slice A1 t.tools.length a1] 59)) wr ∧
      Hid ((ts.take i).any (fun x => seq x.name t.name) = ((ts.take i).drop k).any (fun x => seq x.name t.name))) (fun i6 _ => i - (intOf i6).toNat)
    case atStart => exact ⟨0, Nat.zero_le _, rfl, Drawn.refl _, Lib.hid rfl⟩
    case round =>
      obtain ⟨k, hk, rfl, hd, H⟩ := hrel
      have hb := hd.below (w.heap.size + 2)
      have k0 : wr.cell? ⟨w.heap.size, 1, none⟩ = some (.slice (some ⟨b, o, none⟩) ts.length c) := by rw [hb.cell (by simp)]; go_simp
      have k00 : wr.cell? ⟨w.heap.size + 1, 0, none⟩ = some (.string t.name) := by rw [hb.cell (by simp)]; go_simp
      have k1 : wr.cell? ⟨w.heap.size + 1, 1, none⟩ = some (.slice A1 t.tools.length a1) := by rw [hb.cell (by simp)]; go_simp
      have hbW2 := below_then (below_two _ _ _) (by simp; omega) (hd.below _)
      have hz4 : w.heap.size + 1 < wr.heap.size := by have := hb.size; simp at this; omega
      clear hb c0 c1
      by_cases hlt : k < i
      · have hlt2 : k < ts.length := by omega
        obtain ⟨b5, o5, A5, a5, he5, _, hl5, d0, d1, _⟩ := station_at (hr.keep (Agree.below hbW2)) k hlt2
        obtain ⟨rfl, rfl⟩ : b = b5 ∧ o = o5 := by simpa using he5
        have S := any_step (fun x => seq x.name t.name) (ts.take i) k (by rw [List.length_take]; omega)
        rw [List.getElem_take] at S
        have hlt' : (k : Int) < (ts.length : Int) := by omega
        have hlt'' : (k : Int) < (i : Int) := by omega
        generalize ts[k] = x at *
        clear hr d1 he5 k1 hn1
        cases p2 : seq x.name t.name with
        | true =>
          have t1 : (x.name.toList == t.name.toList) = true := p2
          simp only [p2, Bool.true_or] at S
          have SH := Lib.hid S
          clear S p2
          have E := Lib.hid (show stationErr1 ts i t = 9 by rw [stationErr1, if_neg (by rw [P1.out]; simp), if_pos (by rw [H.out, SH.out])])
          go_wp2_with fail
          go_quiet (fail)
          go_wp2_with fail
          go_ret
          exact ⟨ret_int (by rw [HE.out, E.out]), below_drewN hbW2 _⟩
        | false =>
          have t1 : (x.name.toList == t.name.toList) = false := p2
          simp only [p2, Bool.false_or] at S
          have SH := Lib.hid S
          clear S p2
          go_wp2_with fail
          go_quiet (fail)
          go_wp2_with fail
          go_roundw
          case rel => exact ⟨k+1, by omega, by go_num, hd.step _, Lib.hid (by rw [H.out, SH.out])⟩
          case measure => simp [intOf]; omega
      · have E := Lib.hid (show stationErr1 ts i t = if 16 < t.tools.length then 6 else toolsErr none t.tools by
          rw [stationErr1, if_neg (by rw [P1.out]; simp), if_neg (by rw [H.out, List.drop_of_length_le (by rw [List.length_take]; omega)]; simp)])
        have hA := (Kd.K_tools hK).keep (Agree.below hbW2)
        clear P1 H hn1 hd k00 k0
        obtain ⟨W, rfl⟩ : ∃ W : World, W = wr := ⟨_, rfl⟩
        obtain ⟨A2, a2, he, ha1, ha2, hra⟩ := hA
        obtain ⟨rfl, _, rfl⟩ := Value.slice.inj he
        clear he
        generalize t.tools = l at *
        by_cases hlen : 16 < l.length
        · have E2 := Lib.hid (E.out.trans (if_pos hlen))
          have q1 : decide (16 < (l.length : Int)) = true := decide_eq_true (by omega)
          go_wp2_with fail
          go_ret
          exact ⟨ret_int (by rw [HE.out, E2.out]), hbW2⟩
        · have E2 := Lib.hid (E.out.trans (if_neg hlen))
          have q1 : decide (16 < (l.length : Int)) = false := decide_eq_false (by omega)
          go_wp2_with fail
          go_loopw [7] (fun i7 wr => ∃ k : Nat, k ≤ l.length ∧ i7 = .int .i64 k ∧ Drawn W wr ∧ Hid (R = toolsErr (sprevOf l k) (l.drop k))) (fun i7 _ => l.length - (intOf i7).toNat)
          case atStart => exact ⟨0, Nat.zero_le _, rfl, Drawn.refl _, Lib.hid (by rw [HE.out, E2.out]; rfl)⟩
          case round =>
            obtain ⟨k, hk, rfl, hd, H⟩ := hrel
            have hb := hd.below W.heap.size
            have hbw := below_then hbW2 hbW2.size hb
            have kr : wr.cell? ⟨w.heap.size + 1, 1, none⟩ = some (.slice A1 l.length a1) := (hb.cell (by simp; omega)).trans k1
            clear k1
            by_cases hlt : k < l.length
            · obtain ⟨b5, o5, rfl, _, hl5, d0, hx⟩ := str_at (hra.keep (Agree.below (hd.below _))) k hlt
              have hlt' : (k : Int) < (l.length : Int) := by omega
              have S := Lib.hid (tools_step l k hlt)
              have hn := lawname_calls l[k] wr hx
              have hprev : Hid (0 < k → wr.cell? ⟨b5, o5 + (k - 1), none⟩ = some (.string (l.getD (k-1) ByteArray.empty)) ∧ sprevOf l k = some (l.getD (k-1) ByteArray.empty)) := by
                refine Lib.hid fun hp => ?_
                obtain ⟨b6, o6, he6, _, _, d1, _⟩ := str_at (hra.keep (Agree.below (hd.below _))) (k - 1) (by omega)
                obtain ⟨rfl, rfl⟩ : b5 = b6 ∧ o5 = o6 := by simpa using he6
                rw [d1]
                obtain ⟨j, rfl⟩ : ∃ j, k = j + 1 := ⟨k - 1, by omega⟩
                simp [show j < l.length by omega, sprevOf]
              generalize l[k] = x at *
              clear hra
              cases p3 : nameOk x with
              | false =>
                rw [p3] at hn
                have S1 : Hid (R = 11) := Lib.hid (by rw [H.out, S.out, if_pos p3])
                clear p3
                go_wp2_with (refine hn.mono ?_; rintro e w2 ⟨rfl, rfl⟩)
                go_ret
                exact ⟨ret_int S1.out.symm, hbw⟩
              | true =>
                rw [p3] at hn
                have S1 : Hid (R = if (sprevOf l k).any (fun q => notLess q x) = true then 8 else toolsErr (sprevOf l (k+1)) (l.drop (k+1))) := Lib.hid (by rw [H.out, S.out, if_neg (by rw [p3]; simp)])
                clear p3
                rcases Nat.eq_zero_or_pos k with h0 | hp
                · have S2 : Hid (R = toolsErr (sprevOf l (k+1)) (l.drop (k+1))) := Lib.hid (by rw [S1.out, if_neg (by rw [h0]; simp [sprevOf])])
                  have g0 : ¬ 0 < k := by omega
                  have g1 : decide (0 < k) = false := decide_eq_false g0
                  have g2 : decide (0 < (k : Int)) = false := decide_eq_false (by omega)
                  clear h0
                  go_wp2_with fail
                  refine hn.mono ?_
                  rintro e w2 ⟨rfl, rfl⟩
                  go_wp2_with fail
                  go_quiet (fail)
                  go_wp2_with fail
                  go_roundw
                  case rel => exact ⟨k+1, by omega, by go_num, hd.step _, S2⟩
                  case measure => simp [intOf]; omega
                · obtain ⟨d1, hs⟩ := hprev.out hp
                  have g1 : decide (0 < k) = true := decide_eq_true hp
                  have g2 : decide (0 < (k : Int)) = true := decide_eq_true (by omega)
                  have g3 : (0 : Int) ≤ (k : Int) - 1 := by omega
                  have g4 : (k : Int) - 1 < (l.length : Int) := by omega
                  have g5 : ((k : Int) - 1).toNat = k - 1 := by omega
                  have S3 : Hid (R = if notLess (l.getD (k-1) ByteArray.empty) x = true then 8 else toolsErr (sprevOf l (k+1)) (l.drop (k+1))) := Lib.hid (by rw [S1.out, hs]; rfl)
                  clear hs
                  generalize l.getD (k-1) ByteArray.empty = y at *
                  cases p4 : notLess y x with
                  | true =>
                    have S4 : Hid (R = 8) := Lib.hid (by rw [S3.out, if_pos p4])
                    have e4 : (Op.bytesLess x.toList y.toList || x.toList == y.toList) = true := by rw [leq_total]; simpa [notLess] using p4
                    clear p4
                    go_wp2_with fail
                    refine hn.mono ?_
                    rintro e w2 ⟨rfl, rfl⟩
                    go_wp2_with fail
                    go_quiet (fail)
                    go_wp2_with fail
                    go_ret
                    exact ⟨ret_int S4.out.symm, below_drewN hbw _⟩
                  | false =>
                    have S4 : Hid (R = toolsErr (sprevOf l (k+1)) (l.drop (k+1))) := Lib.hid (by rw [S3.out, if_neg (by rw [p4]; simp)])
                    have e4 : (Op.bytesLess x.toList y.toList || x.toList == y.toList) = false := by rw [leq_total]; simpa [notLess] using p4
                    clear p4
                    go_wp2_with fail
                    refine hn.mono ?_
                    rintro e w2 ⟨rfl, rfl⟩
                    go_wp2_with fail
                    go_quiet (fail)
                    go_wp2_with fail
                    go_roundw
                    case rel => exact ⟨k+1, by omega, by go_num, hd.step _, S4⟩
                    case measure => simp [intOf]; omega
            · go_wp2_with fail
              go_ret
              exact ⟨ret_int (by rw [H.out, tools_end _ _ _ (by omega)]), hbw⟩
end Go.Proofs.Ythigebbihclbiaa
