/- task.Able, for a valid shop. -/
import Derived.Test.YthigebbihclbiaaCheck
import Derived.Test.YthigebbihclbiaaLawAble
namespace Go.Proofs.Ythigebbihclbiaa
open Go.RowKit Go.Maps
set_option maxRecDepth 100000

/-- m[key] of such a map. -/
theorem MapIs.look {w : World} {base b n : Nat} {g : ByteArray → List Int} (h : MapIs w base b n g) (hn : n < 1000000) (key : ByteArray) (hk : key.size ≤ 9223372036854775807) :
    ∃ v, (Instr.lookup 83 (.map (some b)) (.string key) false).run Try.prog w = .ok v w ∧ Kd.int.Own 3 w base Kd.NoB v (g key) := by
  obtain ⟨D, h1, h2, h3⟩ := h
  have hkey : keyOf Try.prog 9 (.string key) = some (.string key.data.toList) := WideMaps.keyOf_string_mk Try.underlying9 (by simpa [maxLen] using hk)
  obtain ⟨v, zs, hrun, hat, hoi, hzl, hback⟩ := h1.at (E := 31) str_law Try.underlying83 (by kernel_rfl) (by simp only [maxLen]; omega) hkey
  have hz : zs = g key := by
    rw [h3 key] at hat
    by_cases hg0 : g key = []
    · rw [if_pos hg0] at hat
      rw [hg0]
      rcases hoi.datum (H := Unit) with ⟨e, e0⟩ | e
      · exact e0
      · rw [e] at hat
        exact absurd (congrArg isNilD hat) (by simp [isNilD])
    · rw [if_neg hg0] at hat
      rcases hoi.datum (H := Unit) with ⟨e, e0⟩ | e
      · rw [e] at hat
        exact absurd (congrArg isNilD hat) (by simp [isNilD])
      · rw [e] at hat
        exact (lits_inj (DataW.slice.inj hat).1).symm
  subst hz
  exact ⟨v, hrun, _, by simpa [Kd.int, Kd.scal] using hoi.1, Kd.Cs.scal_iff.2 ⟨rfl, fun _ _ => trivial⟩, fun _ hb => hb.elim⟩

theorem able_out (s : Shop) (F : Nat → Prop) (v : Value) (i : Int) (w : World) (h : ShopAt w F s v) (hc : checkOf s = 0) (hi : i < 0 ∨ (s.tasks.length : Int) ≤ i) :
    Calls Try.prog 27 #[v, .int .i64 i] w (RetL [] 2 w) := by
  obtain ⟨v1, v2, rfl, h1, h2⟩ := h
  have hB := Boxed.start w v1 v2 25
  have hcall := check_calls s F _ _ (show ShopAt _ F s (.agg #[v1, v2]) from ⟨v1, v2, rfl, h1.keep (Agree.below hB.below), h2.keep (Agree.below hB.below)⟩)
  rw [hc] at hcall
  clear hc
  obtain ⟨A, c, rfl, _⟩ := h1
  obtain ⟨B, d, rfl, _⟩ := h2
  go_enter Try.func27, Try.ntmps27
  go_wp2_with fail
  refine hcall.mono ?_
  rintro e w1 ⟨rfl, hb1⟩
  have hB1 := hB.later hb1
  have k0 := hB1.c0
  have k1 := hB1.c1
  by_cases h0 : i < 0
  · have g1 : decide (i < 0) = true := decide_eq_true h0
    go_wp2_with fail
    go_ret2
    exact ⟨_, rfl, Kd.Sl.nil _ _ _, hB1.below⟩
  · have g1 : decide (i < 0) = false := decide_eq_false h0
    have g2 : decide ((s.tasks.length : Int) ≤ i) = true := decide_eq_true (by omega)
    go_wp2_with fail
    go_ret2
    exact ⟨_, rfl, Kd.Sl.nil _ _ _, hB1.below⟩

set_option maxHeartbeats 2000000 in
theorem able_in (s : Shop) (F : Nat → Prop) (v : Value) (i : Nat) (w : World) (h : ShopAt w F s v) (hc : checkOf s = 0) (hi : i < s.tasks.length) :
    Calls Try.prog 27 #[v, .int .i64 i] w (RetL (toolsOf s.stations s.tasks[i].tool) 0 w) := by
  obtain ⟨l1, l2, Z, hnl, Z2, _⟩ := zero_of_check s hc
  obtain ⟨v1, v2, rfl, h1, h2⟩ := h
  have hS := Lib.hid (show ∀ W, Below w.heap.size w W → ShopAt W F s (.agg #[v1, v2]) from fun W hW => ⟨v1, v2, rfl, h1.keep (Agree.below hW), h2.keep (Agree.below hW)⟩)
  have hB := Boxed.start w v1 v2 25
  have hcall := check_calls s F _ _ (hS.out _ hB.below)
  rw [hc] at hcall
  have hto := toolsOk_of _ l2 Z2
  have htc := fun W (hW : Below w.heap.size w W) => tools_calls s F _ W (hS.out W hW) hto
  clear hc Z Z2 hto hnl
  obtain ⟨A, c, rfl, hc1, hc2, hr⟩ := h1
  obtain ⟨B, d, rfl, _⟩ := h2
  obtain ⟨b, o, A1, a1, rfl, _, hl1, _, _, cw2, _, hK⟩ := task_at hr i hi
  obtain ⟨_, hts⟩ := Kd.K_tsize hK
  clear hK hr
  generalize s.tasks[i].tool = t at *
  have hi' : (i : Int) < (s.tasks.length : Int) := by omega
  have h0i : (0 : Int) ≤ (i : Int) := by omega
  have g1 : decide ((i : Int) < 0) = false := decide_eq_false (by omega)
  have g2 : decide ((s.tasks.length : Int) ≤ (i : Int)) = false := decide_eq_false (by omega)
  go_enter Try.func27, Try.ntmps27
  go_wp2_with fail
  refine hcall.mono ?_
  rintro e w1 ⟨rfl, hb1⟩
  have hB1 := hB.later hb1
  have k0 := hB1.c0
  have k1 := hB1.c1
  have c2 := (hB1.below.cell (p := ⟨b, o + i * 4 + 2, none⟩) hl1).trans cw2
  clear hcall hb1 hB
  go_upto_region 6 with fail
  go_region_held3 (fun w' => w'.cell? ⟨w.heap.size, 0, none⟩ = some (.slice (some ⟨b, o, none⟩) s.tasks.length c) ∧ w'.cell? ⟨w.heap.size, 1, none⟩ = some (.slice B s.stations.length d) ∧ w'.cell? ⟨b, o + i * 4 + 2, none⟩ = some (.string t)) (first | exact ⟨k0', k1', c2'⟩ | exact ⟨k0, k1, c2⟩ | go_keep)
    (first
      | (go_at_call 53; refine (htc _ (by first | exact hB1.below | exact hB1.below.drew | exact below_drewN hB1.below _)).mono ?_; rintro e' w4 ⟨mb, mn, mbase, rfl, hM, hmn, hmb, hmbase, hb4⟩
         have hB4 := hB1.later (by first | exact hb4 | exact ((Below.refl _ w1).drew).trans hb4 | exact (below_drewN (Below.refl _ w1) _).trans hb4)
         have k0' := hB4.c0; have k1' := hB4.c1; have c2' := (hb4.cell (p := ⟨b, o + i * 4 + 2, none⟩) (show b < w1.heap.size from Nat.lt_of_lt_of_le hl1 hB1.below.size)).trans c2
         obtain ⟨lv, hlk, hlo⟩ := hM.look (by omega) t hts; clear hb4 hM))
  all_goals
    have hz : w1.heap.size ≤ mbase := hmbase
    go_wp2_with fail
    go_ret2
    exact ⟨lv, rfl, hlo.sl_to (by decide) (fun _ h => h.elim) (fun b hb _ => by have := hB1.below.size; omega), hB4.below⟩
end Go.Proofs.Ythigebbihclbiaa
