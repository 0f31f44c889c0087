/- slices.Reverse, Contains, Max, Clone at ints, on rows of the call's own. -/
import Derived.Test.YthigebbihclbiaaOrder
import Derived.Lib.OwnBridge
import Derived.Lib.MinMax
namespace Go.Proofs.Ythigebbihclbiaa
open Go.RowKit

theorem own_int {w : World} {base : Nat} {v : Value} {xs : List Int} : Kd.int.Own 3 w base Kd.NoB v xs ↔ w.ownsRow base 3 1 v xs.length (xs.map (Value.int .i64)) := by
  constructor
  · rintro ⟨cs, h1, h2, _⟩
    obtain ⟨rfl, _⟩ := Kd.Cs.scal_iff.1 h2
    exact h1
  · intro h
    exact ⟨_, h, Kd.Cs.scal_iff.2 ⟨rfl, fun _ _ => trivial⟩, fun _ hb => hb.elim⟩

theorem grown_putRow {w : World} {g q : Nat} {d : Array Int} : w.grownBy (Sort.putRow (Value.int .i64) (Sort.ahead w q) g 0 d) (some g) :=
  ⟨rfl, rfl, rfl, by simp [Sort.putRow, Sort.mapBlock, Sort.ahead], fun k _ hk => by
    have : g ≠ k := fun e => hk (by rw [e])
    simp [Sort.putRow, Sort.mapBlock, Sort.ahead, Array.getElem?_modify, this]⟩

theorem reverse_int (v : Value) (base : Nat) (xs : List Int) (w : World) (h : Kd.int.Own 3 w base Kd.NoB v xs) :
    Calls Try.prog 63 #[v] w fun e w' => e = .returned (.tuple #[]) ∧ Kd.int.Own 3 w' base Kd.NoB v xs.reverse ∧ w.grownBy w' v.ownBlock := by
  have h' := own_int.1 h
  by_cases hv : v = .slice none 0 0
  · subst hv
    have hx : xs = [] := by
      rcases h'.2 with ⟨_, h0⟩ | ⟨_, _, _, he, _⟩
      · exact List.length_eq_zero_iff.1 h0
      · cases he
    subst hx
    refine (AnyE.slices_Reverse_empty Try.laysReverse none 0 w).mono ?_
    rintro e w' ⟨rfl, rfl⟩
    exact ⟨rfl, h, World.grownBy.refl _ _⟩
  · obtain ⟨g, cap, rfl, hb, hg, hn, hm, hl, hH⟩ := Lib.holds_of_ownsRow h' hv
    refine (AnyE.slices_Reverse Try.laysReverse (Value.int .i64) (fun _ => rfl) g 0 cap xs w hH (by simp only [maxLen] at hm; omega)).mono ?_
    rintro e w' ⟨rfl, n, rfl⟩
    refine ⟨rfl, own_int.2 ?_, grown_putRow⟩
    have := Lib.ownsRow_putRow (q := n) (k := xs.length) (ys := xs.reverse) h' (by simp) (Nat.le_refl _)
    rw [List.take_of_length_le (by simp)] at this
    simpa using this
end Go.Proofs.Ythigebbihclbiaa

/- slices.Index, Contains, Max at ints. -/
namespace Go.Proofs.Ythigebbihclbiaa
open Go.RowKit

set_option maxHeartbeats 400000 in
theorem index_int (v : Value) (F : Nat → Prop) (xs : List Int) (a : Int) (w : World) (h : Kd.int.Sl w F xs v) :
    Calls Try.prog 64 #[v, .int .i64 a] w (Found (xs.contains a) w) := by
  obtain ⟨A, c, rfl, hc1, hc2, hr⟩ := h
  obtain ⟨q, hq⟩ : ∃ q, xs.contains a = q := ⟨_, rfl⟩
  rw [hq]
  have HQ := Lib.hid hq
  clear hq
  go_enter Try.func64, Try.ntmps64
  go_wp2
  go_loop [5, 8] (fun _ i => ∃ k : Nat, k ≤ xs.length ∧ i = .int .i64 k ∧ Hid (q = (xs.drop k).contains a)) (fun _ i => xs.length - (intOf i).toNat)
  case atStart => exact ⟨0, Nat.zero_le _, rfl, Lib.hid HQ.out.symm⟩
  case round =>
    obtain ⟨k, hk, rfl, H⟩ := hrel
    by_cases hlt : k < xs.length
    · obtain ⟨b, o, rfl, _, _, hc⟩ := int_at hr k hlt
      have S := Lib.hid (contains_step xs k a hlt)
      generalize xs[k] = x at *
      by_cases hx : a = x
      · have e1 : (a == x) = true := beq_iff_eq.2 hx
        have HX := Lib.hid (show (x == a) = true from beq_iff_eq.2 hx.symm)
        clear hx
        go_wp2
        go_ret
        exact ⟨k, rfl, by rw [H.out, S.out, HX.out]; simp, Below.refl _ _⟩
      · have e1 : (a == x) = false := beq_eq_false_iff_ne.2 hx
        have HX := Lib.hid (show (x == a) = false from beq_eq_false_iff_ne.2 (fun e => hx e.symm))
        clear hx
        go_wp2
        go_round
        case rel => exact ⟨k+1, by omega, by go_num, Lib.hid (by rw [H.out, S.out, HX.out, Bool.false_or])⟩
        case measure => simp [intOf]; omega
    · go_wp2
      go_ret
      exact ⟨-1, rfl, by rw [H.out, List.drop_of_length_le (by omega)]; rfl, Below.refl _ _⟩
set_option maxHeartbeats 400000 in
theorem contains_int (v : Value) (F : Nat → Prop) (xs : List Int) (a : Int) (w : World) (h : Kd.int.Sl w F xs v) :
    Calls Try.prog 45 #[v, .int .i64 a] w fun e w' => e = .returned (.bool (xs.contains a)) ∧ Below w.heap.size w w' := by
  have hcall := index_int v F xs a w h
  clear h
  generalize xs.contains a = q at *
  go_enter Try.func45, Try.ntmps45
  go_wp2_with (refine hcall.mono ?_; rintro e w' ⟨r, rfl, hr, hb⟩; have HR := Lib.hid hr; clear hr)
  go_ret
  exact ⟨ret_bool (by rw [← HR.out]), hb⟩

def maxOf : List Int → Int
  | [] => 0
  | x :: xs => xs.foldl max x
theorem max_step (xs : List Int) (k : Nat) (h : k < xs.length) (m : Int) : (xs.drop k).foldl max m = (xs.drop (k+1)).foldl max (max m xs[k]) := by
  rw [List.drop_eq_getElem_cons h]; rfl
set_option maxHeartbeats 400000 in
theorem max_int (v : Value) (F : Nat → Prop) (xs : List Int) (w : World) (h : Kd.int.Sl w F xs v) (hn : 0 < xs.length) :
    Calls Try.prog 43 #[v] w fun e w' => e = .returned (.int .i64 (maxOf xs)) ∧ w = w' := by
  obtain ⟨A, c, rfl, hc1, hc2, hr⟩ := h
  obtain ⟨b, o, rfl, _, _, hc0⟩ := int_at hr 0 hn
  rw [Nat.add_zero] at hc0
  have hn' : ¬ (xs.length : Int) < 1 := by omega
  have hn2 : decide ((xs.length : Int) < 1) = false := decide_eq_false hn'
  have hM := Lib.hid (show maxOf xs = (xs.drop 1).foldl max xs[0] by cases xs with | nil => simp at hn | cons x xs => rfl)
  generalize maxOf xs = R at *
  generalize h0 : xs[0] = x0 at *
  have H0 := Lib.hid h0
  clear h0
  go_enter Try.func43, Try.ntmps43
  go_wp2
  go_loop [3, 4] (fun m i => ∃ (k : Nat) (q : Int), 1 ≤ k ∧ k ≤ xs.length ∧ i = .int .i64 k ∧ m = .int .i64 q ∧ Hid (R = (xs.drop k).foldl max q)) (fun _ i => xs.length - (intOf i).toNat)
  case atStart => exact ⟨1, x0, Nat.le_refl _, by omega, rfl, rfl, Lib.hid hM.out⟩
  case round =>
    obtain ⟨k, q, hk1, hk, rfl, rfl, H⟩ := hrel
    by_cases hlt : k < xs.length
    · obtain ⟨b', o', he, _, _, hc⟩ := int_at hr k hlt
      obtain ⟨rfl, rfl⟩ : b = b' ∧ o = o' := by simpa using he
      have S := Lib.hid (max_step xs k hlt q)
      have hlt' : (k : Int) < (xs.length : Int) := by omega
      generalize xs[k] = x at *
      clear hc0 hM H0 he
      go_wp2
      go_ways
      all_goals first
      | (go_round
         case rel => exact ⟨k+1, max q x, by omega, by omega, by go_num, by first | rfl | simp, Lib.hid (by rw [H.out, S.out])⟩
         case measure => simp [intOf]; omega)
    · go_wp2
      go_ret
      exact ⟨ret_int (by rw [H.out, List.drop_of_length_le (by omega)]; rfl), rfl⟩
end Go.Proofs.Ythigebbihclbiaa
