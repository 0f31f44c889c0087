/- task.Equal. -/
import Derived.Test.YthigebbihclbiaaEq
namespace Go.Proofs.Ythigebbihclbiaa
open Go.RowKit

def eqT (x y : Task) : Bool := seq x.name y.name && (ieq x.dur y.dur && (seq x.tool y.tool && eqBy ieq x.after y.after))
def eqS (x y : Station) : Bool := seq x.name y.name && eqBy seq x.tools y.tools
def eqShop (a b : Shop) : Bool := eqBy eqT a.tasks b.tasks && eqBy eqS a.stations b.stations

set_option maxHeartbeats 400000 in
theorem equal1 (x y : Task) (F G : Nat → Prop) (w : World) (cs ds : Array Value) (hx : Kd.task.K w F x cs.toList) (hy : Kd.task.K w G y ds.toList) :
    Calls Try.prog 32 #[.agg cs, .agg ds] w fun e w' => e = .returned (.bool (eqT x y)) ∧ Below w.heap.size w w' := by
  obtain ⟨v, hcs, _, _, hv⟩ := Kd.K_task.1 hx
  obtain ⟨u, hds, _, _, hu⟩ := Kd.K_task.1 hy
  rw [arr_of_list hcs, arr_of_list hds]
  clear hcs hds hx hy
  go_enter Try.func32, Try.ntmps32
  go_wp2_with (refine (equal_int _ _ F G x.after y.after _ (hv.keep (Agree.below (below_two _ _ _))) (hu.keep (Agree.below (below_two _ _ _)))).mono ?_; rintro e w' ⟨rfl, hd⟩)
  all_goals
    go_ret
    refine ⟨ret_bool ?_, by first | exact below_then (below_two _ _ _) (by simp; omega) (hd.below _) | exact below_two _ _ _⟩
    simp [eqT, seq, ieq, *]

set_option maxHeartbeats 400000 in
theorem equal2 (x y : Station) (F G : Nat → Prop) (w : World) (cs ds : Array Value) (hx : Kd.station.K w F x cs.toList) (hy : Kd.station.K w G y ds.toList) :
    Calls Try.prog 35 #[.agg cs, .agg ds] w fun e w' => e = .returned (.bool (eqS x y)) ∧ Below w.heap.size w w' := by
  obtain ⟨v, hcs, _, hv⟩ := Kd.K_station.1 hx
  obtain ⟨u, hds, _, hu⟩ := Kd.K_station.1 hy
  rw [arr_of_list hcs, arr_of_list hds]
  clear hcs hds hx hy
  go_enter Try.func35, Try.ntmps35
  go_wp2_with (refine (equal_str _ _ F G x.tools y.tools _ (hv.keep (Agree.below (below_two _ _ _))) (hu.keep (Agree.below (below_two _ _ _)))).mono ?_; rintro e w' ⟨rfl, hd⟩)
  all_goals
    go_ret
    refine ⟨ret_bool ?_, by first | exact below_then (below_two _ _ _) (by simp; omega) (hd.below _) | exact below_two _ _ _⟩
    simp [eqS, seq, *]

set_option maxHeartbeats 800000 in
theorem equalFunc_task (v u : Value) (F G : Nat → Prop) (xs ys : List Task) (w : World) (h : Kd.task.Sl w F xs v) (g : Kd.task.Sl w G ys u) :
    Calls Try.prog 31 #[v, u, .func (.func 32) #[] #[]] w fun e w' => e = .returned (.bool (eqBy eqT xs ys)) ∧ Below w.heap.size w w' := by
  obtain ⟨A, c, rfl, hc1, hc2, hr⟩ := h
  obtain ⟨B, d, rfl, hd1, hd2, hs⟩ := g
  by_cases hl : xs.length = ys.length
  · have HL := Lib.hid hl
    have hne : ((xs.length : Int) != (ys.length : Int)) = false := by simp [hl]
    clear hl
    go_enter Try.func31, Try.ntmps31
    go_wp2
    go_loopw [7, 8, 9, 17] (fun _ _ _ i wr => ∃ k : Nat, k ≤ xs.length ∧ i = .int .i64 k ∧ Below w.heap.size w wr ∧ Hid (eqBy eqT xs ys = eqBy eqT (xs.drop k) (ys.drop k))) (fun _ _ _ i _ => xs.length - (intOf i).toNat)
    case atStart => exact ⟨0, Nat.zero_le _, rfl, Below.refl _ _, Lib.hid rfl⟩
    case round =>
      obtain ⟨k, hk, rfl, hb, H⟩ := hrel
      by_cases hlt : k < xs.length
      · have hlt2 : k < ys.length := by rw [← HL.out]; exact hlt
        have hK := hr.keep (Agree.below hb)
        have hKK2 := hs.keep (Agree.below hb)
        obtain ⟨b, o, A1, a1, rfl, _, hl1, c0, c1, c2, c3, hK1⟩ := task_at hK k hlt
        obtain ⟨b2, o2, A2, a2, rfl, _, hl2, d0, d1, d2, d3, hK2⟩ := task_at hKK2 k hlt2
        have S := Lib.hid (eqBy_step eqT xs ys k hlt hlt2)
        have hl3 : b2 ≠ wr.heap.size := by omega
        have hlt' : (k : Int) < (xs.length : Int) := by omega
        have hlt2' : (k : Int) < (ys.length : Int) := by omega
        clear hr hs hK hKK2
        generalize xs[k] = x at *
        generalize ys[k] = y at *
        have hcall := fun o1 o2 => equal1 x y F G ((wr.alloc o1).alloc o2) #[.string x.name, .int .i64 x.dur, .string x.tool, .slice A1 x.after.length a1] #[.string y.name, .int .i64 y.dur, .string y.tool, .slice A2 y.after.length a2] (Kd.task.keep (Agree.below (below_two _ _ _)) hK1) (Kd.task.keep (Agree.below (below_two _ _ _)) hK2)
        cases hq : eqT x y with
        | true =>
          rw [hq] at hcall S
          clear hq
          go_wp2_with (refine (hcall _ _).mono ?_; rintro e w' ⟨rfl, hb'⟩)
          have hb2 := below_then hb hb.size (below_then (below_two _ _ _) (by simp; omega) hb')
          go_roundw
          case rel => exact ⟨k+1, by omega, by go_num, hb2, Lib.hid (by rw [H.out, S.out, Bool.true_and])⟩
          case measure => simp [intOf]; omega
        | false =>
          rw [hq] at hcall S
          clear hq
          go_wp2_with (refine (hcall _ _).mono ?_; rintro e w' ⟨rfl, hb'⟩)
          have hb2 := below_then hb hb.size (below_then (below_two _ _ _) (by simp; omega) hb')
          go_ret
          exact ⟨ret_bool (by rw [H.out, S.out, Bool.false_and]), hb2⟩
      · go_wp2
        go_ret
        exact ⟨ret_bool (by rw [H.out, eqBy_end _ _ _ _ (by omega) (by rw [← HL.out]; omega)]), hb⟩
  · have hne : ((xs.length : Int) != (ys.length : Int)) = true := by rw [bne_iff_ne]; omega
    have HL := Lib.hid (eqBy_len eqT xs ys hl)
    clear hl
    go_enter Try.func31, Try.ntmps31
    go_wp2
    go_ret
    exact ⟨ret_bool HL.out.symm, Below.refl _ _⟩

set_option maxHeartbeats 800000 in
theorem equalFunc_station (v u : Value) (F G : Nat → Prop) (xs ys : List Station) (w : World) (h : Kd.station.Sl w F xs v) (g : Kd.station.Sl w G ys u) :
    Calls Try.prog 34 #[v, u, .func (.func 35) #[] #[]] w fun e w' => e = .returned (.bool (eqBy eqS xs ys)) ∧ Below w.heap.size w w' := by
  obtain ⟨A, c, rfl, hc1, hc2, hr⟩ := h
  obtain ⟨B, d, rfl, hd1, hd2, hs⟩ := g
  by_cases hl : xs.length = ys.length
  · have HL := Lib.hid hl
    have hne : ((xs.length : Int) != (ys.length : Int)) = false := by simp [hl]
    clear hl
    go_enter Try.func34, Try.ntmps34
    go_wp2
    go_loopw [7, 8, 9, 17] (fun _ _ _ i wr => ∃ k : Nat, k ≤ xs.length ∧ i = .int .i64 k ∧ Below w.heap.size w wr ∧ Hid (eqBy eqS xs ys = eqBy eqS (xs.drop k) (ys.drop k))) (fun _ _ _ i _ => xs.length - (intOf i).toNat)
    case atStart => exact ⟨0, Nat.zero_le _, rfl, Below.refl _ _, Lib.hid rfl⟩
    case round =>
      obtain ⟨k, hk, rfl, hb, H⟩ := hrel
      by_cases hlt : k < xs.length
      · have hlt2 : k < ys.length := by rw [← HL.out]; exact hlt
        have hK := hr.keep (Agree.below hb)
        have hKK2 := hs.keep (Agree.below hb)
        obtain ⟨b, o, A1, a1, rfl, _, hl1, c0, c1, hK1⟩ := station_at hK k hlt
        obtain ⟨b2, o2, A2, a2, rfl, _, hl2, d0, d1, hK2⟩ := station_at hKK2 k hlt2
        have S := Lib.hid (eqBy_step eqS xs ys k hlt hlt2)
        have hl3 : b2 ≠ wr.heap.size := by omega
        have hlt' : (k : Int) < (xs.length : Int) := by omega
        have hlt2' : (k : Int) < (ys.length : Int) := by omega
        clear hr hs hK hKK2
        generalize xs[k] = x at *
        generalize ys[k] = y at *
        have hcall := fun o1 o2 => equal2 x y F G ((wr.alloc o1).alloc o2) #[.string x.name, .slice A1 x.tools.length a1] #[.string y.name, .slice A2 y.tools.length a2] (Kd.station.keep (Agree.below (below_two _ _ _)) hK1) (Kd.station.keep (Agree.below (below_two _ _ _)) hK2)
        cases hq : eqS x y with
        | true =>
          rw [hq] at hcall S
          clear hq
          go_wp2_with (refine (hcall _ _).mono ?_; rintro e w' ⟨rfl, hb'⟩)
          have hb2 := below_then hb hb.size (below_then (below_two _ _ _) (by simp; omega) hb')
          go_roundw
          case rel => exact ⟨k+1, by omega, by go_num, hb2, Lib.hid (by rw [H.out, S.out, Bool.true_and])⟩
          case measure => simp [intOf]; omega
        | false =>
          rw [hq] at hcall S
          clear hq
          go_wp2_with (refine (hcall _ _).mono ?_; rintro e w' ⟨rfl, hb'⟩)
          have hb2 := below_then hb hb.size (below_then (below_two _ _ _) (by simp; omega) hb')
          go_ret
          exact ⟨ret_bool (by rw [H.out, S.out, Bool.false_and]), hb2⟩
      · go_wp2
        go_ret
        exact ⟨ret_bool (by rw [H.out, eqBy_end _ _ _ _ (by omega) (by rw [← HL.out]; omega)]), hb⟩
  · have hne : ((xs.length : Int) != (ys.length : Int)) = true := by rw [bne_iff_ne]; omega
    have HL := Lib.hid (eqBy_len eqS xs ys hl)
    clear hl
    go_enter Try.func34, Try.ntmps34
    go_wp2
    go_ret
    exact ⟨ret_bool HL.out.symm, Below.refl _ _⟩

/-- A shop by value: its two slices. -/
def ShopAt (w : World) (F : Nat → Prop) (s : Shop) (v : Value) : Prop := ∃ a b, v = .agg #[a, b] ∧ Kd.task.Sl w F s.tasks a ∧ Kd.station.Sl w F s.stations b
theorem ShopAt.keep {w w' : World} {F : Nat → Prop} {s : Shop} {v : Value} (h : ShopAt w F s v) (ha : Agree F w w') : ShopAt w' F s v := by
  obtain ⟨a, b, rfl, h1, h2⟩ := h
  exact ⟨a, b, rfl, h1.keep ha, h2.keep ha⟩

set_option maxHeartbeats 400000 in
theorem task_equal (a b : Shop) (F G : Nat → Prop) (v u : Value) (w : World) (h : ShopAt w F a v) (g : ShopAt w G b u) :
    Calls Try.prog 12 #[v, u] w fun e w' => e = .returned (.bool (eqShop a b)) ∧ Below w.heap.size w w' := by
  obtain ⟨v1, v2, rfl, h1, h2⟩ := h
  obtain ⟨u1, u2, rfl, g1, g2⟩ := g
  have hb2 := fun o1 o2 => below_two w o1 o2
  have hcall := fun o1 o2 => equalFunc_task v1 u1 F G a.tasks b.tasks ((w.alloc o1).alloc o2) (h1.keep (Agree.below (hb2 _ _))) (g1.keep (Agree.below (hb2 _ _)))
  have hcall2 := fun W (hW : Below w.heap.size w W) => equalFunc_station v2 u2 F G a.stations b.stations W (h2.keep (Agree.below hW)) (g2.keep (Agree.below hW))
  clear h1 h2 g1 g2
  unfold eqShop
  generalize eqBy eqT a.tasks b.tasks = p at *
  generalize eqBy eqS a.stations b.stations = q at *
  cases p with
  | true =>
    go_enter Try.func12, Try.ntmps12
    go_wp2_with fail
    refine (hcall _ _).mono ?_
    rintro e w1 ⟨rfl, hb1⟩
    have hb := below_then (hb2 _ _) (by simp; omega) hb1
    obtain ⟨hc, hf⟩ := bcell hb1
    go_wp2_with fail
    refine (hcall2 _ hb).mono ?_
    rintro e w2 ⟨rfl, hb3⟩
    go_wp2_with fail
    go_ret
    exact ⟨by simp, below_then hb hb.size hb3⟩
  | false =>
    go_enter Try.func12, Try.ntmps12
    go_wp2_with fail
    refine (hcall _ _).mono ?_
    rintro e w1 ⟨rfl, hb1⟩
    have hb := below_then (hb2 _ _) (by simp; omega) hb1
    obtain ⟨hc, hf⟩ := bcell hb1
    go_wp2_with fail
    go_ret
    exact ⟨by simp, hb⟩
end Go.Proofs.Ythigebbihclbiaa
