/- The errors of a station: task.station. -/
import Derived.Test.YthigebbihclbiaaTaskErr
import Derived.WalkLawsBesides
namespace Go.Proofs.Ythigebbihclbiaa
open Go.RowKit

def notLess (q x : ByteArray) : Bool := !Op.bytesLess q.toList x.toList
/-- The first error of a station's tools (p: the one before). -/
def toolsErr : Option ByteArray → List ByteArray → Int
  | _, [] => 0
  | p, x :: xs => if nameOk x = false then 11 else if p.any (fun q => notLess q x) = true then 8 else toolsErr (some x) xs
def sprevOf (l : List ByteArray) : Nat → Option ByteArray
  | 0 => none
  | k + 1 => some (l.getD k ByteArray.empty)
theorem tools_step (l : List ByteArray) (k : Nat) (h : k < l.length) : toolsErr (sprevOf l k) (l.drop k) =
    if nameOk l[k] = false then 11 else if (sprevOf l k).any (fun q => notLess q l[k]) = true then 8 else toolsErr (sprevOf l (k+1)) (l.drop (k+1)) := by
  rw [List.drop_eq_getElem_cons h, toolsErr]
  simp [sprevOf, h]
theorem tools_end (p : Option ByteArray) (l : List ByteArray) (k : Nat) (h : l.length ≤ k) : toolsErr p (l.drop k) = 0 := by
  rw [List.drop_of_length_le h, toolsErr]
def stationErr1 (ss : List Station) (i : Nat) (t : Station) : Int :=
  if nameOk t.name = false then 11 else if (ss.take i).any (fun x => seq x.name t.name) = true then 9 else if 16 < t.tools.length then 6 else toolsErr none t.tools
/-- The first error of station i. -/
def stationErr (ss : List Station) (i : Nat) : Int := match ss[i]? with | some t => stationErr1 ss i t | none => 0

set_option maxHeartbeats 400000 in
theorem station1 (nm : ByteArray) (B : Nat) (w : World) (F : Nat → Prop) (xs : List Station) (hB : B < w.heap.size) (hc : w.cell? ⟨B, 0, none⟩ = some (.string nm)) :
    PredOn 71 #[.pointer (some ⟨B, 0, none⟩)] (fun W x v => ∃ cs, v = .agg cs ∧ Kd.station.K W F x cs.toList) (fun x => seq x.name nm) xs w := by
  rintro W x v hx hb ⟨cs, rfl, hK⟩
  obtain ⟨u, hcs, _⟩ := Kd.K_station.1 hK
  rw [arr_of_list hcs]
  have hc' : W.cell? ⟨B, 0, none⟩ = some (.string nm) := (hb.cell hB).trans hc
  have hB' : B < W.heap.size := by have := hb.size; omega
  clear hc hcs hK hx
  show Calls Try.prog 71 #[_, _] W _
  go_enter Try.func71, Try.ntmps71
  go_wp2
  go_ret
  exact ⟨ret_bool (by simp [seq]), below_one _ _⟩

theorem eg_station1 : ∀ args w, (callFunc 71 args).run Try.prog w = .ok (.enter 71 args) w := enters_of Try.func71 (by kernel_rfl) rfl

set_option maxHeartbeats 4000000 in
theorem station_calls (s : Shop) (F : Nat → Prop) (v : Value) (w : World) (i : Nat) (h : ShopAt w F s v) (hi : i < s.stations.length) :
    Calls Try.prog 58 #[v, .int .i64 i] w fun e w' => e = .returned (.int .i64 (stationErr s.stations i)) ∧ Below w.heap.size w w' := by
  obtain ⟨v1, v2, rfl, h1, h2⟩ := h
  obtain ⟨A, c, rfl, hc1, hc2, hr⟩ := h2
  obtain ⟨b, o, A1, a1, rfl, hF, hl, c0, c1, hK⟩ := station_at hr i hi
  have HE := Lib.hid (show stationErr s.stations i = stationErr1 s.stations i s.stations[i] by rw [stationErr, List.getElem?_eq_getElem hi])
  generalize stationErr s.stations i = R at *
  generalize s.stations = ts at *
  have hz1 := Kd.K_ssize hK
  have hi' : (i : Int) < (ts.length : Int) := by omega
  have hicap : i ≤ c := by omega
  have hrt := hr.take i
  generalize ts[i] = t at *
  have hn1 := fun W => name_calls t.name W hz1
  have hdup := fun (W : World) (hb : Below w.heap.size w W) (hB : w.heap.size + 1 < W.heap.size) (hc : W.cell? ⟨w.heap.size + 1, 0, none⟩ = some (.string t.name)) =>
    containsFunc_station (.slice (some ⟨b, o, none⟩) i c) F (ts.take i) 71 #[.pointer (some ⟨w.heap.size + 1, 0, none⟩)] (fun x => seq x.name t.name) W
      ⟨_, c, by rw [List.length_take, Nat.min_eq_left (by omega)], by rw [List.length_take]; omega, hc2, hrt.keep (Agree.below hb)⟩ eg_station1 (station1 t.name _ W F _ hB hc)
  cases p1 : nameOk t.name with
  | false =>
    have E := Lib.hid (show stationErr1 ts i t = 11 by rw [stationErr1, if_pos p1])
    rw [p1] at hn1
    clear p1 hdup
    go_enter Try.func58, Try.ntmps58
    go_wp2_with (refine (hn1 _).mono ?_; rintro e w1 ⟨rfl, hb1⟩)
    go_ret
    exact ⟨ret_int (by rw [HE.out, E.out]), below_then (below_two _ _ _) (by simp; omega) hb1⟩
  | true =>
    rw [p1] at hn1
    go_enter Try.func58, Try.ntmps58
    have P1 := Lib.hid p1
    clear p1
    go_wp2_with fail
    refine (hn1 _).mono ?_
    rintro e w1 ⟨rfl, hb1⟩
    obtain ⟨hc, hf⟩ := bcell hb1
    have hbW := below_then (below_two _ _ _) (by simp; omega) hb1
    have hz3 : w.heap.size + 1 < w1.heap.size := by have := hb1.size; simp at this; omega
    cases p2 : (ts.take i).any (fun x => seq x.name t.name) with
    | true =>
      have E := Lib.hid (show stationErr1 ts i t = 9 by rw [stationErr1, if_neg (by rw [P1.out]; simp), if_pos p2])
      rw [p2] at hdup
      clear p2
      go_wp2_with (refine (hdup _ hbW hz3 (by rw [hc _ _ (by simp)]; go_simp)).mono ?_; rintro e w2 ⟨rfl, hb2⟩)
      go_ret
      exact ⟨ret_int (by rw [HE.out, E.out]), below_then hbW hbW.size hb2⟩
    | false =>
      rw [p2] at hdup
      have P2 := Lib.hid p2
      clear p2
      go_wp2_with fail
      refine (hdup _ hbW hz3 (by rw [hc _ _ (by simp)]; go_simp)).mono ?_
      rintro e W ⟨rfl, hb2⟩
      have k1 : W.cell? ⟨w.heap.size + 1, 1, none⟩ = some (.slice A1 t.tools.length a1) := by rw [hb2.cell (by simp; omega), hc _ _ (by simp)]; go_simp
      have hbW2 := below_then hbW hbW.size hb2
      have hz4 : w.heap.size + 1 < W.heap.size := by have := hb2.size; omega
      have hA := (Kd.K_tools hK).keep (Agree.below hbW2)
      clear hc hf hb1 hbW hz3 hb2 hdup c0 c1 hrt hr hn1
      have E := Lib.hid (show stationErr1 ts i t = if 16 < t.tools.length then 6 else toolsErr none t.tools by
        rw [stationErr1, if_neg (by rw [P1.out]; simp), if_neg (by rw [P2.out]; simp)])
      clear P1 P2
      obtain ⟨A2, a2, he, ha1, ha2, hra⟩ := hA
      obtain ⟨rfl, _, rfl⟩ := Value.slice.inj he
      clear he
      generalize t.tools = l at *
      by_cases hlen : 16 < l.length
      · have E2 := Lib.hid (E.out.trans (if_pos hlen))
        have q1 : decide (16 < (l.length : Int)) = true := decide_eq_true (by omega)
        go_wp2_with fail
        go_ret
        exact ⟨ret_int (by rw [HE.out, E2.out]), hbW2⟩
      · have E2 := Lib.hid (E.out.trans (if_neg hlen))
        have q1 : decide (16 < (l.length : Int)) = false := decide_eq_false (by omega)
        go_wp2_with fail
        go_loopw [6, 7, 33] (fun _ _ i33 wr => ∃ k : Nat, k ≤ l.length ∧ i33 = .int .i64 k ∧ Below W.heap.size W wr ∧ Hid (R = toolsErr (sprevOf l k) (l.drop k))) (fun _ _ i33 _ => l.length - (intOf i33).toNat)
        case atStart => exact ⟨0, Nat.zero_le _, rfl, Below.refl _ _, Lib.hid (by rw [HE.out, E2.out]; rfl)⟩
        case round =>
          obtain ⟨k, hk, rfl, hb, H⟩ := hrel
          have hbw := below_then hbW2 hbW2.size hb
          have hzr : w.heap.size + 1 < wr.heap.size := by have := hb.size; omega
          by_cases hlt : k < l.length
          · obtain ⟨b5, o5, rfl, _, hl5, d0, hx⟩ := str_at (hra.keep (Agree.below hb)) k hlt
            have hlt' : (k : Int) < (l.length : Int) := by omega
            have S := Lib.hid (tools_step l k hlt)
            have hn := name_calls l[k] wr hx
            have hprev : Hid (0 < k → wr.cell? ⟨b5, o5 + (k - 1), none⟩ = some (.string (l.getD (k-1) ByteArray.empty)) ∧ sprevOf l k = some (l.getD (k-1) ByteArray.empty)) := by
              refine Lib.hid fun hp => ?_
              obtain ⟨b6, o6, he6, _, _, d1, _⟩ := str_at (hra.keep (Agree.below hb)) (k - 1) (by omega)
              obtain ⟨rfl, rfl⟩ : b5 = b6 ∧ o5 = o6 := by simpa using he6
              rw [d1]
              obtain ⟨j, rfl⟩ : ∃ j, k = j + 1 := ⟨k - 1, by omega⟩
              simp [show j < l.length by omega, sprevOf]
            generalize l[k] = x at *
            clear hra
            have kr : wr.cell? ⟨w.heap.size + 1, 1, none⟩ = some (.slice (some ⟨b5, o5, none⟩) l.length a1) := (hb.cell (by simp; omega)).trans k1
            clear k1
            cases p3 : nameOk x with
            | false =>
              rw [p3] at hn
              have S1 : Hid (R = 11) := Lib.hid (by rw [H.out, S.out, if_pos p3])
              clear p3
              go_wp2_with (refine hn.mono ?_; rintro e w2 ⟨rfl, hb2⟩)
              go_ret
              exact ⟨ret_int S1.out.symm, below_then hbw hbw.size hb2⟩
            | true =>
              rw [p3] at hn
              have S1 : Hid (R = if (sprevOf l k).any (fun q => notLess q x) = true then 8 else toolsErr (sprevOf l (k+1)) (l.drop (k+1))) := Lib.hid (by rw [H.out, S.out, if_neg (by rw [p3]; simp)])
              clear p3
              rcases Nat.eq_zero_or_pos k with h0 | hp
              · have S2 : Hid (R = toolsErr (sprevOf l (k+1)) (l.drop (k+1))) := Lib.hid (by rw [S1.out, if_neg (by rw [h0]; simp [sprevOf])])
                have g0 : ¬ 0 < k := by omega
                have g1 : decide (0 < k) = false := decide_eq_false g0
                have g2 : decide (0 < (k : Int)) = false := decide_eq_false (by omega)
                clear h0
                go_wp2_with fail
                refine hn.mono ?_
                rintro e w2 ⟨rfl, hb2⟩
                go_wp2_with fail
                go_roundw
                case rel => exact ⟨k+1, by omega, by go_num, below_then hb hb.size hb2, S2⟩
                case measure => simp [intOf]; omega
              · obtain ⟨d1, hs⟩ := hprev.out hp
                have g1 : decide (0 < k) = true := decide_eq_true hp
                have g2 : decide (0 < (k : Int)) = true := decide_eq_true (by omega)
                have g3 : (0 : Int) ≤ (k : Int) - 1 := by omega
                have g4 : (k : Int) - 1 < (l.length : Int) := by omega
                have g5 : ((k : Int) - 1).toNat = k - 1 := by omega
                have S3 : Hid (R = if notLess (l.getD (k-1) ByteArray.empty) x = true then 8 else toolsErr (sprevOf l (k+1)) (l.drop (k+1))) := Lib.hid (by rw [S1.out, hs]; rfl)
                clear hs
                generalize l.getD (k-1) ByteArray.empty = y at *
                cases p4 : notLess y x with
                | true =>
                  have S4 : Hid (R = 8) := Lib.hid (by rw [S3.out, if_pos p4])
                  have e4 : Op.bytesLess y.toList x.toList = false := by simpa [notLess] using p4
                  clear p4
                  go_wp2_with fail
                  refine hn.mono ?_
                  rintro e w2 ⟨rfl, hb2⟩
                  replace kr := (hb2.cell (by simp; omega)).trans kr
                  replace d1 := (hb2.cell hl5).trans d1
                  go_wp2_with fail
                  go_ret
                  exact ⟨ret_int S4.out.symm, below_then hbw hbw.size hb2⟩
                | false =>
                  have S4 : Hid (R = toolsErr (sprevOf l (k+1)) (l.drop (k+1))) := Lib.hid (by rw [S3.out, if_neg (by rw [p4]; simp)])
                  have e4 : Op.bytesLess y.toList x.toList = true := by simpa [notLess] using p4
                  clear p4
                  go_wp2_with fail
                  refine hn.mono ?_
                  rintro e w2 ⟨rfl, hb2⟩
                  replace kr := (hb2.cell (by simp; omega)).trans kr
                  replace d1 := (hb2.cell hl5).trans d1
                  go_wp2_with fail
                  go_roundw
                  case rel => exact ⟨k+1, by omega, by go_num, below_then hb hb.size hb2, S4⟩
                  case measure => simp [intOf]; omega
          · go_wp2_with fail
            go_ret
            exact ⟨ret_int (by rw [H.out, tools_end _ _ _ (by omega)]), hbw⟩
end Go.Proofs.Ythigebbihclbiaa
