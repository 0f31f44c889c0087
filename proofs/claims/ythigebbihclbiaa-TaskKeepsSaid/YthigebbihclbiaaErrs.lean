/- Able, Before, Load where Check gives an error; Check of too many. -/
import Derived.Test.YthigebbihclbiaaLawCheck
namespace Go.Proofs.Ythigebbihclbiaa
open Go.RowKit
set_option maxRecDepth 100000

theorem check_limit (A B : Option Addr) (n c m d : Nat) (w : World) (hn : n ≤ 9223372036854775807) (hm : m ≤ 9223372036854775807) (h : 24 < n ∨ 8 < m) :
    Calls Try.prog 29 #[.agg #[.slice A n c, .slice B m d]] w fun e w' => e = .returned (.int .i64 6) ∧ Below w.heap.size w w' := by
  by_cases h1 : 24 < n
  · have g1 : decide (24 < (n : Int)) = true := decide_eq_true (by omega)
    clear h
    go_enter Try.func29, Try.ntmps29
    go_wp2_with fail
    go_ret
    exact ⟨rfl, below_one _ _⟩
  · have g1 : decide (24 < (n : Int)) = false := decide_eq_false (by omega)
    have g2 : decide (8 < (m : Int)) = true := decide_eq_true (by omega)
    clear h
    go_enter Try.func29, Try.ntmps29
    go_wp2_with fail
    go_ret
    exact ⟨rfl, below_one _ _⟩

theorem able_err (s : Shop) (F : Nat → Prop) (v : Value) (i : Int) (w : World) (h : ShopAt w F s v) (hc : checkOf s ≠ 0) :
    Calls Try.prog 27 #[v, .int .i64 i] w fun e w' => e = .returned (.tuple #[.slice none 0 0, .int .i64 (checkOf s)]) ∧ Below w.heap.size w w' := by
  obtain ⟨v1, v2, rfl, h1, h2⟩ := h
  have hB := Boxed.start w v1 v2 25
  have hcall := check_calls s F _ _ (show ShopAt _ F s (.agg #[v1, v2]) from ⟨v1, v2, rfl, h1.keep (Agree.below hB.below), h2.keep (Agree.below hB.below)⟩)
  have ge : (checkOf s != 0) = true := by simpa using hc
  generalize checkOf s = cc at *
  clear hc
  obtain ⟨A, c, rfl, _⟩ := h1
  obtain ⟨B, d, rfl, _⟩ := h2
  go_enter Try.func27, Try.ntmps27
  go_wp2_with fail
  refine hcall.mono ?_
  rintro e w1 ⟨rfl, hb1⟩
  have hB1 := hB.later hb1
  go_wp2_with fail
  go_ret2
  exact ⟨rfl, hB1.below⟩
theorem before_err (s : Shop) (F : Nat → Prop) (v : Value) (w : World) (h : ShopAt w F s v) (hc : checkOf s ≠ 0) :
    Calls Try.prog 26 #[v] w fun e w' => e = .returned (.tuple #[.slice none 0 0, .int .i64 (checkOf s)]) ∧ Below w.heap.size w w' := by
  obtain ⟨v1, v2, rfl, h1, h2⟩ := h
  have hB := Boxed.start w v1 v2 25
  have hcall := check_calls s F _ _ (show ShopAt _ F s (.agg #[v1, v2]) from ⟨v1, v2, rfl, h1.keep (Agree.below hB.below), h2.keep (Agree.below hB.below)⟩)
  have ge : (checkOf s != 0) = true := by simpa using hc
  generalize checkOf s = cc at *
  clear hc
  obtain ⟨A, c, rfl, _⟩ := h1
  obtain ⟨B, d, rfl, _⟩ := h2
  go_enter Try.func26, Try.ntmps26
  go_wp2_with fail
  refine hcall.mono ?_
  rintro e w1 ⟨rfl, hb1⟩
  have hB1 := hB.later hb1
  go_wp2_with fail
  go_ret2
  exact ⟨rfl, hB1.below⟩
theorem load_err (s : Shop) (F : Nat → Prop) (v : Value) (A' : Option Addr) (n c' : Nat) (w : World) (h : ShopAt w F s v) (hc : checkOf s ≠ 0) :
    Calls Try.prog 23 #[v, .slice A' n c'] w fun e w' => e = .returned (.tuple #[.int .i64 0, .int .i64 (checkOf s)]) ∧ Below w.heap.size w w' := by
  obtain ⟨v1, v2, rfl, h1, h2⟩ := h
  have hB := (Boxed.start w v1 v2 25).later (below_one _ (.cells #[.slice A' n c'] 31))
  have hcall := check_calls s F _ _ (show ShopAt _ F s (.agg #[v1, v2]) from ⟨v1, v2, rfl, h1.keep (Agree.below hB.below), h2.keep (Agree.below hB.below)⟩)
  have ge : (checkOf s != 0) = true := by simpa using hc
  generalize checkOf s = cc at *
  clear hc
  obtain ⟨A, c, rfl, _⟩ := h1
  obtain ⟨B, d, rfl, _⟩ := h2
  go_enter Try.func23, Try.ntmps23
  go_wp2_with fail
  refine hcall.mono ?_
  rintro e w1 ⟨rfl, hb1⟩
  have hB1 := hB.later hb1
  go_wp2_with fail
  go_ret2
  exact ⟨rfl, hB1.below⟩
theorem eqT_refl (x : Task) : eqT x x = true := by
  unfold eqT
  rw [eqBy_refl ieq (fun x => by simp [ieq]), (seq_iff _ _).2 rfl, (seq_iff _ _).2 rfl]
  simp [ieq]
theorem eqS_refl (x : Station) : eqS x x = true := by
  unfold eqS
  rw [eqBy_refl seq (fun x => (seq_iff _ _).2 rfl), (seq_iff _ _).2 rfl]
  rfl
theorem eqShop_refl (s : Shop) : eqShop s s = true := by
  unfold eqShop
  rw [eqBy_refl eqT eqT_refl, eqBy_refl eqS eqS_refl]
  rfl
end Go.Proofs.Ythigebbihclbiaa
