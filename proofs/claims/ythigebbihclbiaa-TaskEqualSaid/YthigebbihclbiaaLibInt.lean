/- slices.Reverse, Contains, Max, Clone at ints, on rows of the call's own. -/
import Derived.Test.YthigebbihclbiaaOrder
import Derived.Lib.OwnBridge
namespace Go.Proofs.Ythigebbihclbiaa
open Go.RowKit

theorem own_int {w : World} {base : Nat} {v : Value} {xs : List Int} : Kd.int.Own 3 w base Kd.NoB v xs ↔ w.ownsRow base 3 1 v xs.length (xs.map (Value.int .i64)) := by
  constructor
  · rintro ⟨cs, h1, h2, _⟩
    obtain ⟨rfl, _⟩ := Kd.Cs.scal_iff.1 h2
    exact h1
  · intro h
    exact ⟨_, h, Kd.Cs.scal_iff.2 ⟨rfl, fun _ _ => trivial⟩, fun _ hb => hb.elim⟩

theorem grown_putRow {w : World} {g q : Nat} {d : Array Int} : w.grownBy (Sort.putRow (Value.int .i64) (Sort.ahead w q) g 0 d) (some g) :=
  ⟨rfl, rfl, rfl, by simp [Sort.putRow, Sort.mapBlock, Sort.ahead], fun k _ hk => by
    have : g ≠ k := fun e => hk (by rw [e])
    simp [Sort.putRow, Sort.mapBlock, Sort.ahead, Array.getElem?_modify, this]⟩

theorem reverse_int (v : Value) (base : Nat) (xs : List Int) (w : World) (h : Kd.int.Own 3 w base Kd.NoB v xs) :
    Calls Try.prog 63 #[v] w fun e w' => e = .returned (.tuple #[]) ∧ Kd.int.Own 3 w' base Kd.NoB v xs.reverse ∧ w.grownBy w' v.ownBlock := by
  have h' := own_int.1 h
  by_cases hv : v = .slice none 0 0
  · subst hv
    have hx : xs = [] := by
      rcases h'.2 with ⟨_, h0⟩ | ⟨_, _, _, he, _⟩
      · exact List.length_eq_zero_iff.1 h0
      · cases he
    subst hx
    refine (AnyE.slices_Reverse_empty Try.laysReverse none 0 w).mono ?_
    rintro e w' ⟨rfl, rfl⟩
    exact ⟨rfl, h, World.grownBy.refl _ _⟩
  · obtain ⟨g, cap, rfl, hb, hg, hn, hm, hl, hH⟩ := Lib.holds_of_ownsRow h' hv
    refine (AnyE.slices_Reverse Try.laysReverse (Value.int .i64) (fun _ => rfl) g 0 cap xs w hH (by simp only [maxLen] at hm; omega)).mono ?_
    rintro e w' ⟨rfl, n, rfl⟩
    refine ⟨rfl, own_int.2 ?_, grown_putRow⟩
    have := Lib.ownsRow_putRow (q := n) (k := xs.length) (ys := xs.reverse) h' (by simp) (Nat.le_refl _)
    rw [List.take_of_length_le (by simp)] at this
    simpa using this
end Go.Proofs.Ythigebbihclbiaa
