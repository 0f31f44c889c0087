/- dowellaw49.sameShop. -/
import Derived.Test.YthigebbihclbiaaLawEq
import Derived.RegionTactic
import Derived.StillTailTactics
import Derived.BigRegion
import Derived.Deep.DeepCutAuto
import Derived.Deep.CutBlock
namespace Go.Proofs.Ythigebbihclbiaa
open Go.RowKit

set_option maxHeartbeats 1000000 in
theorem law_sameShop (a b : Shop) (F G : Nat → Prop) (v u : Value) (w : World) (h : ShopAt w F a v) (g : ShopAt w G b u) :
    Calls Try.prog 13 #[v, u] w fun e w' => e = .returned (.bool (eqShop a b)) ∧ Below w.heap.size w w' := by
  obtain ⟨v1, v2, rfl, h1, h2⟩ := h
  obtain ⟨u1, u2, rfl, g1, g2⟩ := g
  have hb2 := fun o1 o2 => below_two w o1 o2
  have hcall := fun o1 o2 => law_sameTasks v1 u1 F G a.tasks b.tasks ((w.alloc o1).alloc o2) (h1.keep (Agree.below (hb2 _ _))) (g1.keep (Agree.below (hb2 _ _)))
  have HE := Lib.hid (show eqShop a b = (eqBy eqT a.tasks b.tasks && eqBy eqS a.stations b.stations) from rfl)
  generalize eqShop a b = R at *
  generalize eqBy eqT a.tasks b.tasks = p at *
  generalize a.stations = xs at *
  generalize b.stations = ys at *
  clear h1 g1
  obtain ⟨A, c, rfl, hc1, hc2, hr⟩ := h2
  obtain ⟨B, d, rfl, hd1, hd2, hs⟩ := g2
  cases p with
  | false =>
    go_enter Try.func13, Try.ntmps13
    go_wp2_with (refine (hcall _ _).mono ?_; rintro e w' ⟨rfl, hd⟩)
    go_ret
    exact ⟨ret_bool (by rw [HE.out]; rfl), below_then (hb2 _ _) (by simp; omega) (hd.below _)⟩
  | true =>
    by_cases hl : xs.length = ys.length
    · have HL := Lib.hid hl
      have hne : ((xs.length : Int) != (ys.length : Int)) = false := by simp [hl]
      clear hl
      go_enter Try.func13, Try.ntmps13
      go_wp2_with fail
      refine (hcall _ _).mono ?_
      rintro e W ⟨rfl, hd⟩
      obtain ⟨hc, hf⟩ := bcell (hd.below _)
      have k0 : W.cell? ⟨w.heap.size, 1, none⟩ = some (.slice A xs.length c) := by rw [hc _ _ (by simp; omega)]; go_simp
      have k1 : W.cell? ⟨w.heap.size + 1, 1, none⟩ = some (.slice B ys.length d) := by rw [hc _ _ (by simp)]; go_simp
      have hbW := below_then (hb2 _ _) (by simp; omega) (hd.below _)
      have hz : w.heap.size + 2 ≤ W.heap.size := by have := (hd.below 0).size; simp at this; omega
      clear hc hf hcall hd hb2
      replace hr := hr.keep (Agree.below hbW)
      replace hs := hs.keep (Agree.below hbW)
      have hE : Hid (R = eqBy eqS xs ys) := Lib.hid (by rw [HE.out, Bool.true_and])
      clear HE
      go_wp2_with fail
      go_loopw [5, 6, 7, 8] (fun i _ _ _ wr => ∃ k : Nat, k ≤ xs.length ∧ i = .int .i64 k ∧ Below W.heap.size W wr ∧ Hid (R = eqBy eqS (xs.drop k) (ys.drop k))) (fun i _ _ _ _ => xs.length - (intOf i).toNat)
      case atStart => exact ⟨0, Nat.zero_le _, rfl, Below.refl _ _, hE⟩
      case round =>
        obtain ⟨k, hk, rfl, hb, H⟩ := hrel
        have k0' : wr.cell? ⟨w.heap.size, 1, none⟩ = some (.slice A xs.length c) := (hb.cell (by simp; omega)).trans k0
        have k1' : wr.cell? ⟨w.heap.size + 1, 1, none⟩ = some (.slice B ys.length d) := (hb.cell (by simp; omega)).trans k1
        have hz' : w.heap.size + 2 ≤ wr.heap.size := by have := hb.size; omega
        clear k0 k1
        by_cases hlt : k < xs.length
        · have hlt2 : k < ys.length := by rw [← HL.out]; exact hlt
          obtain ⟨b1, o1, A1, a1, rfl, _, hl1, c0, c1, hu1⟩ := station_at (hr.keep (Agree.below hb)) k hlt
          obtain ⟨b2, o2, A2, a2, rfl, _, hl2, d0, d1, hu2⟩ := station_at (hs.keep (Agree.below hb)) k hlt2
          replace hu1 := Kd.K_tools hu1
          replace hu2 := Kd.K_tools hu2
          have S := Lib.hid (eqBy_step eqS xs ys k hlt hlt2)
          have hlt' : (k : Int) < (xs.length : Int) := by omega
          have hlt2' : (k : Int) < (ys.length : Int) := by omega
          have hq1 : w.heap.size < wr.heap.size := by omega
          have hq2 : w.heap.size + 1 < wr.heap.size := by omega
          clear hr hs
          generalize xs[k] = x at *
          generalize ys[k] = y at *
          go_upto_region 6 with fail
          go_cut [6, 7] (fun s6 s7 wx => ∃ p q : Nat, s6 = .pointer (some ⟨p, 0, none⟩) ∧ s7 = .pointer (some ⟨q, 0, none⟩) ∧ Below wr.heap.size wr wx ∧
            wx.cell? ⟨p, 0, none⟩ = some (.string x.name) ∧ wx.cell? ⟨p, 1, none⟩ = some (.slice A1 x.tools.length a1) ∧ wx.cell? ⟨q, 0, none⟩ = some (.string y.name) ∧ wx.cell? ⟨q, 1, none⟩ = some (.slice A2 y.tools.length a2))
          case first =>
            go_region
            all_goals
              go_wp2_with fail
              go_meet
              refine ⟨_, _, rfl, rfl, (below_two _ _ _).drew, ?_, ?_, ?_, ?_⟩
              all_goals go_simp
          case rest =>
            obtain ⟨p, q, rfl, rfl, hbx, e0, e1, f0, f1⟩ := hcut
            obtain ⟨wx, rfl⟩ : ∃ wx : World, wx = wc := ⟨_, rfl⟩
            replace hu1 := hu1.keep (Agree.below hbx)
            replace hu2 := hu2.keep (Agree.below hbx)
            have hbW' := below_then hb hb.size hbx
            have k0 : wx.cell? ⟨w.heap.size, 1, none⟩ = some (.slice (some ⟨b1, o1, none⟩) xs.length c) := (hbx.cell (by simp; omega)).trans k0'
            have k1 : wx.cell? ⟨w.heap.size + 1, 1, none⟩ = some (.slice (some ⟨b2, o2, none⟩) ys.length d) := (hbx.cell (by simp; omega)).trans k1'
            have hpx : p < wx.heap.size := World.block_lt_of_cell? _ _ e0
            have hqx : q < wx.heap.size := World.block_lt_of_cell? _ _ f0
            have HS := Lib.hid (show eqS x y = (seq x.name y.name && eqBy seq x.tools y.tools) from rfl)
            clear k0' k1' c0 c1 d0 d1 hb hbx
            cases p1 : seq x.name y.name with
            | false =>
              have t1 : (!x.name.toList == y.name.toList) = true := by simpa [seq] using p1
              rw [p1] at HS
              clear p1
              go_wp2_with fail
              go_ret
              exact ⟨ret_bool (by rw [H.out, S.out, HS.out]; rfl), below_then hbW hbW.size hbW'⟩
            | true =>
              have t1 : (!x.name.toList == y.name.toList) = false := by simpa [seq] using p1
              rw [p1] at HS
              clear p1
              by_cases hl : x.tools.length = y.tools.length
              · have HL2 := Lib.hid hl
                have hne2 : ((x.tools.length : Int) != (y.tools.length : Int)) = false := by simp [hl]
                clear hl
                generalize x.tools = xt at *
                generalize y.tools = yt at *
                obtain ⟨A3, a3, he, hc3, hc4, hr3⟩ := hu1
                obtain ⟨rfl, _, rfl⟩ := Value.slice.inj he
                obtain ⟨A4, a4, he2, hd3, hd4, hs3⟩ := hu2
                obtain ⟨rfl, _, rfl⟩ := Value.slice.inj he2
                clear he he2
                go_wp2_with fail
                go_loopw [8] (fun i wy => ∃ k2 : Nat, k2 ≤ xt.length ∧ i = .int .i64 k2 ∧ Drawn wx wy ∧ Hid (eqBy seq xt yt = eqBy seq (xt.drop k2) (yt.drop k2))) (fun i _ => xt.length - (intOf i).toNat)
                case atStart => exact ⟨0, Nat.zero_le _, rfl, Drawn.refl _, Lib.hid rfl⟩
                case round =>
                  obtain ⟨k2, hk2, rfl, hd, H2⟩ := hrel
                  have e1' : wr.cell? ⟨p, 1, none⟩ = some (.slice A1 xt.length a1) := ((hd.below wx.heap.size).cell hpx).trans e1
                  have f1' : wr.cell? ⟨q, 1, none⟩ = some (.slice A2 yt.length a2) := ((hd.below wx.heap.size).cell hqx).trans f1
                  clear e0 f0 e1 f1
                  by_cases hlt3 : k2 < xt.length
                  · have hlt4 : k2 < yt.length := by rw [← HL2.out]; exact hlt3
                    obtain ⟨b3, o3, rfl, _, _, c3, _⟩ := str_at (hr3.keep (hd.agree _)) k2 hlt3
                    obtain ⟨b4, o4, rfl, _, _, c4, _⟩ := str_at (hs3.keep (hd.agree _)) k2 hlt4
                    have S2 := Lib.hid (eqBy_step seq xt yt k2 hlt3 hlt4)
                    have hlt3' : (k2 : Int) < (xt.length : Int) := by omega
                    have hlt4' : (k2 : Int) < (yt.length : Int) := by omega
                    clear hr3 hs3
                    generalize xt[k2] = x2 at *
                    generalize yt[k2] = y2 at *
                    by_cases hxy : seq x2 y2 = true
                    · have hb : (!x2.toList == y2.toList) = false := by simpa [seq] using hxy
                      have HX := Lib.hid hxy
                      clear hxy
                      go_wp2_with fail
                      go_quiet (fail)
                      go_wp2_with fail
                      go_roundw
                      case rel => exact ⟨k2+1, by omega, by go_num, hd.step _, Lib.hid (by rw [H2.out, S2.out, HX.out, Bool.true_and])⟩
                      case measure => simp [intOf]; omega
                    · have hb : (!x2.toList == y2.toList) = true := by simpa [seq] using hxy
                      have HX := Lib.hid (eq_false_of_ne_true hxy)
                      clear hxy
                      go_wp2_with fail
                      go_quiet (fail)
                      go_wp2_with fail
                      go_ret
                      exact ⟨ret_bool (by rw [H.out, S.out, HS.out, H2.out, S2.out, HX.out]; rfl), below_drewN (below_then (below_then hbW hbW.size hbW') (by have := hbW.size; have := hbW'.size; omega) (hd.below _)) _⟩
                  · have E2 := Lib.hid (eqBy_end seq xt yt k2 (by omega) (by rw [← HL2.out]; omega))
                    go_wp2_with fail
                    go_roundw
                    case rel => exact ⟨k+1, by omega, by go_num, below_then hbW' (by have := hbW'.size; omega) (hd.below _), Lib.hid (by rw [H.out, S.out, HS.out, H2.out, E2.out]; rfl)⟩
                    case measure => simp [intOf]; omega
              · have hne2 : ((x.tools.length : Int) != (y.tools.length : Int)) = true := by rw [bne_iff_ne]; omega
                have HL2 := Lib.hid (eqBy_len seq x.tools y.tools hl)
                clear hl
                go_wp2_with fail
                go_ret
                exact ⟨ret_bool (by rw [H.out, S.out, HS.out, HL2.out]; rfl), below_then hbW hbW.size hbW'⟩
        · go_wp2_with fail
          go_ret
          refine ⟨ret_bool ?_, below_then hbW hbW.size hb⟩
          rw [H.out, eqBy_end _ _ _ _ (by omega) (by rw [← HL.out]; omega)]
    · have hne : ((xs.length : Int) != (ys.length : Int)) = true := by rw [bne_iff_ne]; omega
      have HL := Lib.hid (eqBy_len eqS xs ys hl)
      clear hl
      go_enter Try.func13, Try.ntmps13
      go_wp2_with fail
      refine (hcall _ _).mono ?_
      rintro e W ⟨rfl, hd⟩
      obtain ⟨hc, hf⟩ := bcell (hd.below _)
      go_wp2_with fail
      go_ret
      exact ⟨ret_bool (by rw [HE.out, HL.out]; rfl), below_then (hb2 _ _) (by simp; omega) (hd.below _)⟩
end Go.Proofs.Ythigebbihclbiaa
