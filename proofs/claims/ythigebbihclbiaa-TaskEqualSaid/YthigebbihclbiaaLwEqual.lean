/- The law TaskEqual, walked. -/
import Derived.Test.YthigebbihclbiaaFew
import Derived.Deep.RegionHeld3
import Derived.Deep.DeepCutAuto
namespace Go.Proofs.Ythigebbihclbiaa
open Go.RowKit

theorem ieq_comm (a b : Int) : ieq a b = ieq b a := by unfold ieq; rw [Bool.eq_iff_iff]; simp [eq_comm]
theorem seq_comm (a b : ByteArray) : seq a b = seq b a := by rw [seq_dec, Bool.eq_iff_iff]; simp [eq_comm]
theorem eqBy_comm {α : Type} (p : α → α → Bool) (hp : ∀ x y, p x y = p y x) : ∀ xs ys, eqBy p xs ys = eqBy p ys xs
  | [], [] => rfl
  | [], _ :: _ => rfl
  | _ :: _, [] => rfl
  | x :: xs, y :: ys => by rw [eqBy, eqBy, hp x y, eqBy_comm p hp xs ys]
theorem eqT_comm (x y : Task) : eqT x y = eqT y x := by
  unfold eqT
  rw [seq_comm x.name, ieq_comm x.dur, seq_comm x.tool, eqBy_comm ieq ieq_comm x.after]
theorem eqS_comm (x y : Station) : eqS x y = eqS y x := by
  unfold eqS
  rw [seq_comm x.name, eqBy_comm seq seq_comm x.tools]
theorem eqShop_comm (a b : Shop) : eqShop a b = eqShop b a := by
  unfold eqShop
  rw [eqBy_comm eqT eqT_comm, eqBy_comm eqS eqS_comm]

/-- Two shops in boxes. -/
structure Boxed2 (w wr : World) (a b c d : Value) : Prop where
  c0 : wr.cell? ⟨w.heap.size, 0, none⟩ = some a
  c1 : wr.cell? ⟨w.heap.size, 1, none⟩ = some b
  c2 : wr.cell? ⟨w.heap.size + 1, 0, none⟩ = some c
  c3 : wr.cell? ⟨w.heap.size + 1, 1, none⟩ = some d
  below : Below w.heap.size w wr
  size : w.heap.size + 1 < wr.heap.size
theorem Boxed2.later {w wr wx : World} {a b c d : Value} (h : Boxed2 w wr a b c d) (hb : Below wr.heap.size wr wx) : Boxed2 w wx a b c d := by
  have hz := h.size
  exact ⟨(hb.cell (show w.heap.size < _ by omega)).trans h.c0, (hb.cell (show w.heap.size < _ by omega)).trans h.c1, (hb.cell (show w.heap.size + 1 < _ from hz)).trans h.c2, (hb.cell (show w.heap.size + 1 < _ from hz)).trans h.c3, below_then h.below h.below.size hb, Nat.lt_of_lt_of_le hz hb.size⟩
theorem Boxed2.start (w : World) (a b c d : Value) (t : TypeId) : Boxed2 w ((w.alloc (.cells #[a, b] t)).alloc (.cells #[c, d] t)) a b c d :=
  ⟨by go_simp, by go_simp, by go_simp, by go_simp, below_two _ _ _, by simp⟩

theorem below_next {w W w2 : World} (h : Below w.heap.size w W) (k : Below W.heap.size W w2) : Below w.heap.size w w2 := below_then h h.size k

set_option maxRecDepth 100000 in
set_option maxHeartbeats 4000000 in
theorem law_equal (a b : Shop) (F G : Nat → Prop) (v u : Value) (w : World) (h : ShopAt w F a v) (g : ShopAt w G b u) :
    Calls Try.prog 3 #[v, u] w fun e w' => e = .returned (.bool true) ∧ Below w.heap.size w w' := by
  obtain ⟨v1, v2, rfl, h1, h2⟩ := h
  obtain ⟨u1, u2, rfl, g1, g2⟩ := g
  have hA := Lib.hid (show ∀ W, Below w.heap.size w W → ShopAt W F a (.agg #[v1, v2]) from fun W hW => ⟨v1, v2, rfl, h1.keep (Agree.below hW), h2.keep (Agree.below hW)⟩)
  have hG := Lib.hid (show ∀ W, Below w.heap.size w W → ShopAt W G b (.agg #[u1, u2]) from fun W hW => ⟨u1, u2, rfl, g1.keep (Agree.below hW), g2.keep (Agree.below hW)⟩)
  have hB := Boxed2.start w v1 v2 u1 u2 25
  obtain ⟨A1, c1, rfl, _⟩ := h1
  obtain ⟨A2, c2, rfl, _⟩ := h2
  obtain ⟨B1, d1, rfl, _⟩ := g1
  obtain ⟨B2, d2, rfl, _⟩ := g2
  go_enter Try.func3, Try.ntmps3
  go_upto_region 1 with fail
  generalize (w.alloc _).alloc _ = W at *
  have hk := known_calls W
  go_wp2_with fail
  refine hk.mono ?_
  rintro e w1 ⟨rfl, hb1⟩
  have hB1 := hB.later hb1
  clear hk hb1 hB
  have k0 := hB1.c0
  have k1 := hB1.c1
  go_wp2_with fail
  refine (few_calls a F _ w1 (hA.out _ hB1.below)).mono ?_
  rintro e w2 ⟨rfl, hb2⟩
  have hB2 := hB1.later hb2
  clear k0 k1 hb2 hB1
  cases hfa : fewOf a with
  | false =>
    go_wp2_with fail
    refine (known_calls w2).mono ?_
    rintro e w3 ⟨rfl, hb3⟩
    go_wp2_with fail
    go_ret
    exact ⟨rfl, (hB2.later hb3).below⟩
  | true =>
    have k0 := hB2.c2
    have k1 := hB2.c3
    go_wp2_with fail
    refine (few_calls b G _ w2 (hG.out _ hB2.below)).mono ?_
    rintro e w3 ⟨rfl, hb3⟩
    have hB3 := hB2.later hb3
    clear k0 k1 hb3 hB2
    cases hfb : fewOf b with
    | false =>
      go_wp2_with fail
      refine (known_calls w3).mono ?_
      rintro e w4 ⟨rfl, hb4⟩
      go_wp2_with fail
      go_ret
      exact ⟨rfl, (hB3.later hb4).below⟩
    | true =>
      clear hfa hfb
      have H1 := fun (W' : World) (h : Below w3.heap.size w3 W') => task_equal a b F G _ _ W' (hA.out _ (hB3.later h).below) (hG.out _ (hB3.later h).below)
      have H2 := fun (W' : World) (h : Below w3.heap.size w3 W') => law_sameShop a b F G _ _ W' (hA.out _ (hB3.later h).below) (hG.out _ (hB3.later h).below)
      have H3 := fun (W' : World) (h : Below w3.heap.size w3 W') => task_equal b a G F _ _ W' (hG.out _ (hB3.later h).below) (hA.out _ (hB3.later h).below)
      rw [eqShop_comm b a] at H3
      go_upto_region 3 with fail
      have hcur : Below w3.heap.size w3 w3 := Below.refl _ _
      have k0' := hB3.c0
      have k1' := hB3.c1
      have k2' := hB3.c2
      have k3' := hB3.c3
      generalize eqShop a b = q at *
      have H13 : ∀ (W' : World) (x y : Value), Below w3.heap.size w3 W' → ((x = .agg #[.slice A1 a.tasks.length c1, .slice A2 a.stations.length c2] ∧ y = .agg #[.slice B1 b.tasks.length d1, .slice B2 b.stations.length d2]) ∨ (x = .agg #[.slice B1 b.tasks.length d1, .slice B2 b.stations.length d2] ∧ y = .agg #[.slice A1 a.tasks.length c1, .slice A2 a.stations.length c2])) →
          Calls Try.prog 12 #[x, y] W' fun e w' => e = .returned (.bool q) ∧ Below W'.heap.size W' w' := by
        intro W' x y hW hxy
        rcases hxy with ⟨rfl, rfl⟩ | ⟨rfl, rfl⟩
        · exact H1 W' hW
        · exact H3 W' hW
      clear H1 H3
      cases q
      all_goals
      go_region_held3 (fun w' => w'.cell? ⟨w.heap.size, 0, none⟩ = some (.slice A1 a.tasks.length c1) ∧ w'.cell? ⟨w.heap.size, 1, none⟩ = some (.slice A2 a.stations.length c2) ∧ w'.cell? ⟨w.heap.size + 1, 0, none⟩ = some (.slice B1 b.tasks.length d1) ∧ w'.cell? ⟨w.heap.size + 1, 1, none⟩ = some (.slice B2 b.stations.length d2)) (first | exact ⟨k0', k1', k2', k3'⟩ | go_keep)
        (first
          | (go_at_call 12; refine (H13 _ _ _ (by first | exact hcur | exact hcur.drew | exact below_drewN hcur _) (by first | exact .inl ⟨rfl, rfl⟩ | exact .inr ⟨rfl, rfl⟩)).mono ?_; rintro e' w4 ⟨rfl, hb4⟩; replace hcur := below_next (by first | exact hcur | exact hcur.drew | exact below_drewN hcur _) hb4; have hBn := hB3.later hcur; have k0' := hBn.c0; have k1' := hBn.c1; have k2' := hBn.c2; have k3' := hBn.c3; clear hb4 hBn)
          | (go_at_call 13; refine (H2 _ (by first | exact hcur | exact hcur.drew | exact below_drewN hcur _)).mono ?_; rintro e' w4 ⟨rfl, hb4⟩; replace hcur := below_next (by first | exact hcur | exact hcur.drew | exact below_drewN hcur _) hb4; have hBn := hB3.later hcur; have k0' := hBn.c0; have k1' := hBn.c1; have k2' := hBn.c2; have k3' := hBn.c3; clear hb4 hBn))
      all_goals
        go_wp2_with fail
        go_ret
        exact ⟨rfl, (hB3.later (by first | exact hcur | exact hcur.drew | exact below_drewN hcur _)).below⟩
end Go.Proofs.Ythigebbihclbiaa
