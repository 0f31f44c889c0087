/- graph.Check of a good graph. -/
import Derived.Test.YthigebbihclbiaaGrCompact
import Derived.Deep.DeepCutAuto
namespace Go.Proofs.Ythigebbihclbiaa
open Go.RowKit
set_option maxRecDepth 100000

def GraphAt (w : World) (F : Nat → Prop) (n : Nat) (es : List (Int × Int)) (v : Value) : Prop := ∃ v2, v = .agg #[.int .i64 n, v2] ∧ Kd.edge.Sl w F es v2
theorem GraphAt.keep {w w' : World} {F : Nat → Prop} {n : Nat} {es : List (Int × Int)} {v : Value} (h : GraphAt w F n es v) (ha : Agree F w w') : GraphAt w' F n es v := by
  obtain ⟨v2, rfl, h⟩ := h
  exact ⟨v2, rfl, h.keep ha⟩
structure GoodGraph (n : Nat) (es : List (Int × Int)) : Prop where
  le : n ≤ 64
  few : es.length ≤ n * n
  mem : ∀ e ∈ es, (0 ≤ e.1 ∧ e.1 < n) ∧ 0 ≤ e.2 ∧ e.2 < n
  rising : Rising es
theorem beyond_in (n : Nat) (k : Int) (h0 : 0 ≤ k) (h1 : k < n) (w : World) : Calls Try.prog 72 #[.int .i64 n, .int .i64 k] w fun e w' => e = .returned (.bool false) ∧ w = w' := by
  have h := beyond_calls n k w
  rwa [decide_eq_false (by omega), decide_eq_false (by omega)] at h
theorem order_less (x y : Int × Int) (h : edgeLt x y) (w : World) : Calls Try.prog 73 #[.agg #[.int .i64 x.1, .int .i64 x.2], .agg #[.int .i64 y.1, .int .i64 y.2]] w fun e w' => ∃ c : Int, e = .returned (.int .i64 c) ∧ decide (0 ≤ c) = false ∧ Below w.heap.size w w' :=
  (order_edge x y w).mono fun _ _ ⟨he, hg⟩ => ⟨_, he, decide_eq_false (by have := (edgeCmp_neg x y).2 h; omega), hg.below⟩

set_option maxHeartbeats 2000000 in
theorem graph_check (n : Nat) (es : List (Int × Int)) (F : Nat → Prop) (v : Value) (w : World) (h : GraphAt w F n es v) (hg : GoodGraph n es) :
    Calls Try.prog 60 #[v] w fun e w' => e = .returned (.int .i64 0) ∧ Below w.heap.size w w' := by
  obtain ⟨v2, rfl, A, c, rfl, hc1, hc2, hr⟩ := h
  have hB := Boxed.start w (.int .i64 n) (.slice A es.length c) 70
  have HG := Lib.hid hg
  have hn := hg.le
  have g1 : decide ((n : Int) < 0) = false := decide_eq_false (by omega)
  have g2 : decide ((64 : Int) < (n : Int)) = false := decide_eq_false (by omega)
  have hnn : n * n ≤ 4096 := Nat.mul_le_mul hn hn
  have g6 : ((n * n : Nat) : Int) = (n : Int) * (n : Int) := Int.natCast_mul n n
  have g3 : decide (((n : Int) * (n : Int)) < (es.length : Int)) = false := decide_eq_false (by have := hg.few; omega)
  have g4 : (0 : Int) ≤ (n : Int) * (n : Int) := by omega
  have g5 : (n : Int) * (n : Int) ≤ 4096 := by omega
  clear g6
  clear hg hnn
  go_enter Try.func60, Try.ntmps60
  go_upto_region 1 with fail
  generalize w.alloc _ = W at *
  have k0 := hB.c0
  have k1 := hB.c1
  go_wp2_with fail
  clear g1 g2 g3 g4 g5 k0 k1
  obtain ⟨HB0⟩ : Nonempty (Hid (Boxed w W (.int .i64 n) (.slice A es.length c))) := ⟨Lib.hid hB⟩
  go_loopw [4, 28] (fun _ i28 wr => ∃ k : Nat, k ≤ es.length ∧ i28 = .int .i64 k ∧ Boxed w wr (.int .i64 n) (.slice A es.length c)) (fun _ i28 _ => es.length - (intOf i28).toNat)
  case atStart => exact ⟨0, Nat.zero_le _, rfl, hB⟩
  case round =>
    clear hB HB0
    obtain ⟨k, hk, rfl, hB⟩ := hrel
    by_cases hlt : k < es.length
    · obtain ⟨b, o, rfl, _, hl1, cw0, cw1⟩ := edge_at hr k hlt
      have c0 := (hB.below.cell (p := ⟨b, o + k * 2, none⟩) hl1).trans cw0
      have c1 := (hB.below.cell (p := ⟨b, o + k * 2 + 1, none⟩) hl1).trans cw1
      obtain ⟨⟨m0, m1⟩, m2, m3⟩ := HG.out.mem es[k] (List.getElem_mem _)
      have hlt' : (k : Int) < (es.length : Int) := by omega
      have hB2 := hB.later (below_one wr (.cells #[.int .i64 es[k].1, .int .i64 es[k].2] 89))
      have k0 := hB2.c0
      have hz := hB.size
      clear cw0 cw1
      generalize es[k].1 = x at *
      generalize es[k].2 = y at *
      have bb : ∀ (z : Int) (W : World), (z = x ∨ z = y) → Calls Try.prog 72 #[.int .i64 n, .int .i64 z] W fun e w' => e = .returned (.bool false) ∧ W = w' := fun z W h => beyond_in n z (by omega) (by omega) W
      clear m0 m1 m2 m3
      go_wp2_with (refine (bb _ _ (by first | exact .inl rfl | exact .inr rfl)).mono ?_; rintro e' w' ⟨rfl, rfl⟩)
      go_roundw
      case rel => exact ⟨k+1, by omega, by go_num, hB2⟩
      case measure => simp [intOf]; omega
    · obtain ⟨W, rfl⟩ : ∃ W : World, W = wr := ⟨_, rfl⟩
      go_wp2_with fail
      go_loopw [5] (fun i5 wr => ∃ k : Nat, 1 ≤ k ∧ (k ≤ es.length ∨ k = 1) ∧ i5 = .int .i64 k ∧ Boxed w wr (.int .i64 n) (.slice A es.length c)) (fun i5 _ => es.length - (intOf i5).toNat)
      case atStart => exact ⟨1, by omega, .inr rfl, rfl, hB⟩
      case round =>
        clear hB
        obtain ⟨k, hk1, hk, rfl, hB⟩ := hrel
        have k0 := hB.c0
        have k1 := hB.c1
        by_cases hlt2 : k < es.length
        · obtain ⟨b, o, rfl, _, hl1, cw0, cw1⟩ := edge_at hr k hlt2
          obtain ⟨b', o', hA, _, hl2, cw2, cw3⟩ := edge_at hr (k-1) (by omega)
          obtain ⟨rfl, rfl⟩ : b = b' ∧ o = o' := by simpa using hA
          have hL := HG.out.rising (k-1) (by omega)
          simp only [show k - 1 + 1 = k by omega] at hL
          have c0 := (hB.below.cell (p := ⟨b, o + k * 2, none⟩) hl1).trans cw0
          have c1 := (hB.below.cell (p := ⟨b, o + k * 2 + 1, none⟩) hl1).trans cw1
          have c2 := (hB.below.cell (p := ⟨b, o + (k-1) * 2, none⟩) hl1).trans cw2
          have c3 := (hB.below.cell (p := ⟨b, o + (k-1) * 2 + 1, none⟩) hl1).trans cw3
          have hlt' : (k : Int) < (es.length : Int) := by omega
          have hk0 : 0 < k := hk1
          have hbl : b < wr.heap.size := Nat.lt_of_lt_of_le hl1 hB.below.size
          have hkl : k - 1 < es.length := by omega
          have i0 : (0 : Int) ≤ (k : Int) - 1 := by omega
          have i1 : (k : Int) - 1 < (es.length : Int) := by omega
          have i2 : ((k : Int) - 1).toNat = k - 1 := by omega
          have i4 : (1 : Int) ≤ (k : Int) := by omega
          have i5 : (k : Int) < (es.length : Int) + 1 := by omega
          have i6 : ¬ (k : Int) - 1 < 0 := by omega
          have i7 : ¬ (es.length : Int) ≤ (k : Int) - 1 := by omega
          have i8 : (k : Int) ≤ (es.length : Int) := by omega
          have i9 : ¬ (k : Int) < 1 := by omega
          have i3 : IntKind.i64.wrap ((k : Int) - 1) = (k : Int) - 1 := by simp [IntKind.wrap, IntKind.bits, IntKind.signed]; omega
          have hcall := order_less es[k-1] es[k] hL
          clear cw0 cw1 cw2 cw3 hA hL
          generalize es[k].1 = x1 at *
          generalize es[k].2 = x2 at *
          generalize es[k-1].1 = y1 at *
          generalize es[k-1].2 = y2 at *
          go_upto_region 14 with fail
          go_cut [64] (fun s64 wx => s64 = .bool false ∧ Boxed w wx (.int .i64 n) (.slice (some ⟨b, o, none⟩) es.length c))
          case first =>
            go_region_held3 (fun w' => w'.cell? ⟨w.heap.size, 1, none⟩ = some (.slice (some ⟨b, o, none⟩) es.length c) ∧ w'.cell? ⟨b, o + k * 2, none⟩ = some (.int .i64 x1) ∧ w'.cell? ⟨b, o + k * 2 + 1, none⟩ = some (.int .i64 x2) ∧ w'.cell? ⟨b, o + (k-1) * 2, none⟩ = some (.int .i64 y1) ∧ w'.cell? ⟨b, o + (k-1) * 2 + 1, none⟩ = some (.int .i64 y2)) (first | exact ⟨k1', c0', c1', c2', c3'⟩ | exact ⟨k1, c0, c1, c2, c3⟩ | go_keep)
              (first | (go_at_call 73; refine (hcall _).mono ?_; rintro e' w4 ⟨q, rfl, hq, hb4⟩; have hB4 := hB.later (by first | exact hb4 | exact ((Below.refl _ wr).drew).trans hb4 | exact (below_drewN (Below.refl _ wr) _).trans hb4); have k1' := hB4.c1; have c0' := (hb4.cell (p := ⟨b, o + k * 2, none⟩) (show b < wr.heap.size from hbl)).trans c0; have c1' := (hb4.cell (p := ⟨b, o + k * 2 + 1, none⟩) (show b < wr.heap.size from hbl)).trans c1; have c2' := (hb4.cell (p := ⟨b, o + (k-1) * 2, none⟩) (show b < wr.heap.size from hbl)).trans c2; have c3' := (hb4.cell (p := ⟨b, o + (k-1) * 2 + 1, none⟩) (show b < wr.heap.size from hbl)).trans c3; clear hb4))
            all_goals
              go_wp2_with fail
              go_meet
              exact ⟨by first | rw [hq] | (simp only [hq]) , by first | exact hB4 | exact hB4.later ((Below.refl _ _).drew) | exact hB4.later (below_drewN (Below.refl _ _) _)⟩
          case rest =>
            obtain ⟨rfl, hB2⟩ := hcut
            clear hB k0 k1 c0 c1 c2 c3 hcall i0 i1 i2 i3
            go_wp2_with fail
            go_roundw
            case rel => exact ⟨k+1, by omega, .inl (by omega), by go_num, hB2⟩
            case measure => simp [intOf]; omega
        · go_wp2_with fail
          go_ret
          exact ⟨rfl, hB.below⟩
end Go.Proofs.Ythigebbihclbiaa
