/- The law's has, tool, able. -/
import Derived.Test.YthigebbihclbiaaFew
import Derived.Deep.RegionHeld3
import Derived.Deep.DeepCutAuto
namespace Go.Proofs.Ythigebbihclbiaa
open Go.RowKit
set_option maxRecDepth 100000

set_option maxHeartbeats 1000000 in
theorem law_has (v : Value) (F : Nat → Prop) (xs : List Int) (n : Int) (w : World) (h : Kd.int.Sl w F xs v) :
    Calls Try.prog 22 #[v, .int .i64 n] w fun e w' => e = .returned (.bool (xs.contains n)) ∧ w = w' := by
  obtain ⟨A, c, rfl, hc1, hc2, hr⟩ := h
  have HE := Lib.hid (show xs.contains n = (xs.drop 0).contains n from rfl)
  generalize xs.contains n = R at *
  go_enter Try.func22, Try.ntmps22
  go_wp2_with fail
  go_loopw [5] (fun i5 wr => ∃ k : Nat, k ≤ xs.length ∧ i5 = .int .i64 k ∧ wr = w ∧ Hid (R = (xs.drop k).contains n)) (fun i5 _ => xs.length - (intOf i5).toNat)
  case atStart => exact ⟨0, Nat.zero_le _, rfl, rfl, HE⟩
  case round =>
    obtain ⟨k, hk, rfl, rfl, H⟩ := hrel
    by_cases hlt : k < xs.length
    · obtain ⟨b, o, rfl, _, _, c0⟩ := int_at hr k hlt
      have S := Lib.hid (show (xs.drop k).contains n = (n == xs[k] || (xs.drop (k+1)).contains n) by rw [List.drop_eq_getElem_cons hlt, List.contains_cons])
      have hlt' : (k : Int) < (xs.length : Int) := by omega
      clear hr
      generalize xs[k] = x at *
      by_cases hx : x = n
      · have g1 : (x == n) = true := by simpa using hx
        have hR : R = true := by rw [H.out, S.out, hx]; simp
        subst hR
        clear hx
        go_wp2_with fail
        go_ret
        exact ⟨rfl, rfl⟩
      · have g1 : (x == n) = false := by simpa using hx
        have HX := Lib.hid (show (n == x) = false by simpa using fun e => hx e.symm)
        clear hx
        go_wp2_with fail
        go_roundw
        case rel => exact ⟨k+1, by omega, by go_num, by first | trivial | rfl, Lib.hid (by rw [H.out, S.out, HX.out, Bool.false_or])⟩
        case measure => simp [intOf]; omega
    · have hR : R = false := by rw [H.out, List.drop_of_length_le (by omega)]; rfl
      subst hR
      go_wp2_with fail
      go_ret
      exact ⟨rfl, rfl⟩

def hasTool (x : Station) (t : ByteArray) : Bool := x.tools.any (fun u => seq u t) || isEmpty t
set_option maxHeartbeats 1000000 in
theorem tool_calls (x : Station) (t : ByteArray) (F : Nat → Prop) (w : World) (cs : Array Value) (h : Kd.station.K w F x cs.toList) :
    Calls Try.prog 55 #[.agg cs, .string t] w fun e w' => e = .returned (.bool (hasTool x t)) ∧ Below w.heap.size w w' := by
  obtain ⟨v, hcs, hn, hs⟩ := Kd.K_station.1 h
  rw [arr_of_list hcs]
  obtain ⟨nm, tl⟩ := x
  simp only at hs hn
  have HE := Lib.hid (show hasTool ⟨nm, tl⟩ t = (tl.any (fun u => seq u t) || isEmpty t) from rfl)
  generalize hasTool ⟨nm, tl⟩ t = R at *
  obtain ⟨A, c, rfl, hc1, hc2, hr⟩ := hs
  have hb := below_one w (.cells #[.string nm, .slice A tl.length c] 59)
  have k1 : (w.alloc (.cells #[.string nm, .slice A tl.length c] 59)).cell? ⟨w.heap.size, 1, none⟩ = some (.slice A tl.length c) := by go_simp
  replace hr := hr.keep (Agree.below hb)
  clear h hcs
  go_enter Try.func55, Try.ntmps55
  go_upto_region 1 with fail
  generalize w.alloc _ = W at *
  go_wp2_with fail
  go_loopw [5] (fun i5 wr => ∃ k : Nat, k ≤ tl.length ∧ i5 = .int .i64 k ∧ wr = W ∧ Hid (tl.any (fun u => seq u t) = (tl.drop k).any (fun u => seq u t))) (fun i5 _ => tl.length - (intOf i5).toNat)
  case atStart => exact ⟨0, Nat.zero_le _, rfl, rfl, Lib.hid rfl⟩
  case round =>
    obtain ⟨k, hk, rfl, rfl, H⟩ := hrel
    by_cases hlt : k < tl.length
    · obtain ⟨b, o, rfl, _, _, c0, hsz⟩ := str_at hr k hlt
      have S := Lib.hid (any_step (fun u => seq u t) tl k hlt)
      have hlt' : (k : Int) < (tl.length : Int) := by omega
      clear hr
      generalize tl[k] = u at *
      cases hq : seq u t with
      | true =>
        have g1 : (u.toList == t.toList) = true := hq
        have hR : R = true := by rw [HE.out, H.out, S.out]; simp only [hq]; rfl
        subst hR
        clear hq
        go_wp2_with fail
        go_ret
        exact ⟨rfl, hb⟩
      | false =>
        have g1 : (u.toList == t.toList) = false := hq
        have HQ := Lib.hid hq
        clear hq
        go_wp2_with fail
        go_roundw
        case rel => exact ⟨k+1, by omega, by go_num, by first | trivial | rfl, Lib.hid (by rw [H.out, S.out]; simp only [HQ.out, Bool.false_or])⟩
        case measure => simp [intOf]; omega
    · have hR : R = t.toList.isEmpty := by rw [HE.out, H.out, List.drop_of_length_le (by omega)]; rfl
      subst hR
      go_wp2_with fail
      go_ret
      exact ⟨rfl, hb⟩

def ableUpto (ss : List Station) (t : ByteArray) : Nat → List Int
  | 0 => []
  | k + 1 => ableUpto ss t k ++ (match ss[k]? with | some x => if hasTool x t = true then [(k : Int)] else [] | none => [])
/-- The stations that are able to do what needs tool t. -/
def ableOf (ss : List Station) (t : ByteArray) : List Int := ableUpto ss t ss.length
theorem ableUpto_len (ss : List Station) (t : ByteArray) : ∀ k, (ableUpto ss t k).length ≤ k
  | 0 => Nat.le_refl _
  | k + 1 => by
    have := ableUpto_len ss t k
    rw [ableUpto, List.length_append]
    split
    · split <;> simp <;> omega
    · simp; omega

set_option maxHeartbeats 2000000 in
theorem law_able (s : Shop) (F : Nat → Prop) (v : Value) (w : World) (i : Nat) (h : ShopAt w F s v) (hi : i < s.tasks.length) (hsl : s.stations.length ≤ 1000) :
    Calls Try.prog 24 #[v, .int .i64 i] w (RetInts (ableOf s.stations s.tasks[i].tool) w) := by
  obtain ⟨v1, v2, rfl, h1, h2⟩ := h
  have hB := Boxed.start w v1 v2 25
  obtain ⟨A, c, rfl, hc1, hc2, hr⟩ := h1
  obtain ⟨B, d, rfl, hd1, hd2, hs⟩ := h2
  obtain ⟨b1, o1, A1, a1, rfl, _, hl1, _, _, ct, _, _⟩ := task_at hr i hi
  generalize s.tasks[i].tool = t at *
  have HE := Lib.hid (show ableOf s.stations t = ableUpto s.stations t s.stations.length from rfl)
  generalize ableOf s.stations t = R at *
  have hi' : (i : Int) < (s.tasks.length : Int) := by omega
  go_enter Try.func24, Try.ntmps24
  go_upto_region 1 with fail
  generalize w.alloc _ = W at *
  go_wp2_with fail
  go_loopw [5, 6] (fun i5 i6 wr => ∃ (k : Nat) (xs : List Int), k ≤ s.stations.length ∧ i6 = .int .i64 k ∧ Boxed w wr (.slice (some ⟨b1, o1, none⟩) s.tasks.length c) (.slice B s.stations.length d) ∧ Kd.int.Own 3 wr (w.heap.size + 1) Kd.NoB i5 xs ∧ Hid (xs = ableUpto s.stations t k)) (fun _ i6 _ => s.stations.length - (intOf i6).toNat)
  case atStart => exact ⟨0, [], Nat.zero_le _, rfl, hB, Kd.Own.nil _ _ _ _ _, Lib.hid rfl⟩
  case round =>
    clear hB
    obtain ⟨k, xs, hk, rfl, hB, ho, H⟩ := hrel
    obtain ⟨xA, xc, rfl, _⟩ := ho.slice
    have k0 := hB.c0
    have k1 := hB.c1
    by_cases hlt : k < s.stations.length
    · obtain ⟨b, o, A2, a2, rfl, _, hl2, cw0, cw1, hK⟩ := station_at hs k hlt
      have c0 := (hB.below.cell (p := ⟨b, o + k * 2, none⟩) hl2).trans cw0
      have c1 := (hB.below.cell (p := ⟨b, o + k * 2 + 1, none⟩) hl2).trans cw1
      have ct' := (hB.below.cell (p := ⟨b1, o1 + i * 4 + 2, none⟩) hl1).trans ct
      have hK' := Kd.station.keep (Agree.below hB.below) hK
      have hlt' : (k : Int) < (s.stations.length : Int) := by omega
      have HS : Hid (ableUpto s.stations t (k+1) = xs ++ (if hasTool s.stations[k] t = true then [(k : Int)] else [])) := Lib.hid (by rw [ableUpto, ← H.out, List.getElem?_eq_getElem hlt])
      have hxl : xs.length ≤ 1000 := by rw [H.out]; exact Nat.le_trans (ableUpto_len _ _ _) (by omega)
      have hol : (xs.length + 1) * 8 ≤ 140737488355328 := by omega
      clear cw0 cw1
      generalize s.stations[k] = x at *
      have hcall := fun (W' : World) (h : Below wr.heap.size wr W') => tool_calls x t F W' #[.string x.name, .slice A2 x.tools.length a2] (Kd.station.keep (Agree.below h) hK')
      generalize hasTool x t = q at *
      have h0k : (0 : Int) ≤ (k : Int) := by omega
      have h0i : (0 : Int) ≤ (i : Int) := by omega
      go_upto_region 5 with fail
      go_cut [25] (fun s25 wx => s25 = .bool q ∧ Boxed w wx (.slice (some ⟨b1, o1, none⟩) s.tasks.length c) (.slice (some ⟨b, o, none⟩) s.stations.length d) ∧ Kd.int.Own 3 wx (w.heap.size + 1) Kd.NoB (.slice xA xs.length xc) xs)
      case first =>
        go_region_held3 (fun w' => w'.cell? ⟨w.heap.size, 0, none⟩ = some (.slice (some ⟨b1, o1, none⟩) s.tasks.length c) ∧ w'.cell? ⟨w.heap.size, 1, none⟩ = some (.slice (some ⟨b, o, none⟩) s.stations.length d) ∧ w'.cell? ⟨b, o + k * 2, none⟩ = some (.string x.name) ∧ w'.cell? ⟨b, o + k * 2 + 1, none⟩ = some (.slice A2 x.tools.length a2) ∧ w'.cell? ⟨b1, o1 + i * 4 + 2, none⟩ = some (.string t)) (first | exact ⟨k0', k1', c0', c1', ct2⟩ | exact ⟨k0, k1, c0, c1, ct'⟩ | go_keep)
          (first | (go_at_call 55; refine (hcall _ (by first | exact Below.refl _ _ | exact (Below.refl _ _).drew | exact below_drewN (Below.refl _ _) _)).mono ?_; rintro e' w4 ⟨rfl, hb4⟩; have hB4 := hB.later (by first | exact hb4 | exact ((Below.refl _ wr).drew).trans hb4 | exact (below_drewN (Below.refl _ wr) _).trans hb4); have ho4 := ho.below (by first | exact hb4 | exact ((Below.refl _ wr).drew).trans hb4 | exact (below_drewN (Below.refl _ wr) _).trans hb4); have k0' := hB4.c0; have k1' := hB4.c1; have c0' := (hb4.cell (p := ⟨b, o + k * 2, none⟩) (show b < wr.heap.size from Nat.lt_of_lt_of_le hl2 hB.below.size)).trans c0; have c1' := (hb4.cell (p := ⟨b, o + k * 2 + 1, none⟩) (show b < wr.heap.size from Nat.lt_of_lt_of_le hl2 hB.below.size)).trans c1; have ct2 := (hb4.cell (p := ⟨b1, o1 + i * 4 + 2, none⟩) (show b1 < wr.heap.size from Nat.lt_of_lt_of_le hl1 hB.below.size)).trans ct'; clear hb4))
        all_goals
          go_wp2_with fail
          go_meet
          exact ⟨rfl, by first | exact hB4 | exact hB4.later ((Below.refl _ _).drew) | exact hB4.later (below_drewN (Below.refl _ _) _), by first | exact ho4 | exact ho4.below ((Below.refl _ _).drew) | exact ho4.below (below_drewN (Below.refl _ _) _)⟩
      case rest =>
        obtain ⟨rfl, hB2, ho2⟩ := hcut
        clear hB ho k0 k1 c0 c1 ct' hK' hcall
        cases q with
        | false =>
          go_wp2_with fail
          go_roundw
          case rel => exact ⟨k+1, xs, by omega, by go_num, hB2, ho2, Lib.hid (by rw [HS.out]; simp)⟩
          case measure => simp [intOf]; omega
        | true =>
          have hzb := hB2.size
          go_wp2_with (at_builtin; go_must (refine Kd.app_at Kd.int (w.heap.size + 1) Kd.NoB rfl (.tmp 26) (.tmp 28) 31 3 (.int .i64 0) 8 rfl Try.underlying31 int_info rfl (by decide) (by omega) (.slice xA xs.length xc) xs (k : Int) #[.int .i64 k] rfl _ rfl rfl ⟨rfl, trivial⟩ ho2 hzb (fun b hb => hb.elim) hol ?_; intro v1 w6 ho6 hg6 hat6; obtain ⟨nA, nc, rfl, _⟩ := ho6.slice))
          have hrow : ∀ j, (Value.slice xA xs.length xc).ownBlock = some j → w.heap.size + 1 ≤ j := fun j hj => (ho2.lt j hj).1
          have far : some w.heap.size ≠ (Value.slice xA xs.length xc).ownBlock := fun e => by have := hrow _ e.symm; omega
          have hB6 : Boxed w w6 (.slice (some ⟨b1, o1, none⟩) s.tasks.length c) (.slice (some ⟨b, o, none⟩) s.stations.length d) :=
            ⟨hg6.cell hB2.c0 far, hg6.cell hB2.c1 far, hB2.below.grown hg6 hB2.below.size (fun j hj => by have := hrow j hj; omega), Nat.lt_of_lt_of_le hB2.size hg6.size⟩
          go_roundw
          case rel =>
            rw [List.length_append] at ho6
            exact ⟨k+1, _, by omega, by go_num, hB6, ho6, Lib.hid (by rw [HS.out]; simp)⟩
          case measure => simp [intOf]; omega
    · have hX : Hid (R = xs) := Lib.hid (by rw [HE.out, H.out, show k = s.stations.length by omega])
      go_wp2_with fail
      go_ret
      exact ⟨.slice xA xs.length xc, rfl, by rw [hX.out]; exact ho.lower (by omega), hB.below⟩
end Go.Proofs.Ythigebbihclbiaa
