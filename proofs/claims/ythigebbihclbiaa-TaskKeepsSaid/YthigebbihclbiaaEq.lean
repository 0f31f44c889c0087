/- slices.Equal at ints and strings. -/
import Derived.Test.YthigebbihclbiaaKinds
import Derived.Laws.StructEq
import Derived.WideShapes
namespace Go.Proofs.Ythigebbihclbiaa
open Go.RowKit

def eqBy {α : Type} (p : α → α → Bool) : List α → List α → Bool
  | [], [] => true
  | x :: xs, y :: ys => p x y && eqBy p xs ys
  | _, _ => false
theorem eqBy_len {α : Type} (p : α → α → Bool) : ∀ (xs ys : List α), xs.length ≠ ys.length → eqBy p xs ys = false
  | [], [], h => absurd rfl h
  | [], _ :: _, _ => rfl
  | _ :: _, [], _ => rfl
  | x :: xs, y :: ys, h => by rw [eqBy, eqBy_len p xs ys (by simpa using h), Bool.and_false]
theorem eqBy_step {α : Type} (p : α → α → Bool) (xs ys : List α) (k : Nat) (hx : k < xs.length) (hy : k < ys.length) : eqBy p (xs.drop k) (ys.drop k) = (p xs[k] ys[k] && eqBy p (xs.drop (k+1)) (ys.drop (k+1))) := by
  rw [List.drop_eq_getElem_cons hx, List.drop_eq_getElem_cons hy, eqBy]
theorem eqBy_end {α : Type} (p : α → α → Bool) (xs ys : List α) (k : Nat) (hx : xs.length ≤ k) (hy : ys.length ≤ k) : eqBy p (xs.drop k) (ys.drop k) = true := by
  rw [List.drop_of_length_le hx, List.drop_of_length_le hy, eqBy]
theorem eqBy_eq {α : Type} [DecidableEq α] : ∀ (xs ys : List α), eqBy (fun a b => decide (a = b)) xs ys = decide (xs = ys)
  | [], [] => rfl
  | [], _ :: _ => rfl
  | _ :: _, [] => rfl
  | x :: xs, y :: ys => by rw [eqBy, eqBy_eq xs ys]; by_cases h : x = y <;> simp [h]
theorem eqBy_refl {α : Type} (p : α → α → Bool) (hp : ∀ x, p x x = true) : ∀ xs : List α, eqBy p xs xs = true
  | [] => rfl
  | x :: xs => by rw [eqBy, hp, eqBy_refl p hp xs]; rfl

def ieq (a b : Int) : Bool := decide (a = b)
def seq (a b : ByteArray) : Bool := a.toList == b.toList
theorem seq_iff (a b : ByteArray) : seq a b = true ↔ a = b := by
  rw [seq, beq_iff_eq, ByteArray.toList_eq, ByteArray.toList_eq]
  exact ⟨WideShapes.bytes_inj, fun h => by rw [h]⟩
theorem seq_dec : seq = fun a b => decide (a = b) := by
  funext a b
  rw [Bool.eq_iff_iff, seq_iff, decide_eq_true_iff]

set_option maxHeartbeats 400000 in
theorem equal_int (v u : Value) (F G : Nat → Prop) (xs ys : List Int) (w : World) (h : Kd.int.Sl w F xs v) (g : Kd.int.Sl w G ys u) :
    Calls Try.prog 33 #[v, u] w fun e w' => e = .returned (.bool (eqBy ieq xs ys)) ∧ Drawn w w' := by
  obtain ⟨A, c, rfl, hc1, hc2, hr⟩ := h
  obtain ⟨B, d, rfl, hd1, hd2, hs⟩ := g
  by_cases hl : xs.length = ys.length
  · have HL := Lib.hid hl
    have hne : ((xs.length : Int) != (ys.length : Int)) = false := by simp [hl]
    clear hl
    go_enter Try.func33, Try.ntmps33
    go_wp2
    go_loopw [5, 13] (fun _ i wr => ∃ k : Nat, k ≤ xs.length ∧ i = .int .i64 k ∧ Drawn w wr ∧ Hid (eqBy ieq xs ys = eqBy ieq (xs.drop k) (ys.drop k))) (fun _ i _ => xs.length - (intOf i).toNat)
    case atStart => exact ⟨0, Nat.zero_le _, rfl, Drawn.refl _, Lib.hid rfl⟩
    case round =>
      obtain ⟨k, hk, rfl, hd, H⟩ := hrel
      by_cases hlt : k < xs.length
      · have hlt2 : k < ys.length := by rw [← HL.out]; exact hlt
        obtain ⟨b, o, rfl, _, _, c0⟩ := int_at (hr.keep (hd.agree _)) k hlt
        obtain ⟨b', o', rfl, _, _, c1⟩ := int_at (hs.keep (hd.agree _)) k hlt2
        have S := Lib.hid (eqBy_step ieq xs ys k hlt hlt2)
        have hlt' : (k : Int) < (xs.length : Int) := by omega
        have hlt2' : (k : Int) < (ys.length : Int) := by omega
        clear hr hs
        generalize xs[k] = x at *
        generalize ys[k] = y at *
        by_cases hxy : x = y
        · subst hxy
          go_wp2
          go_quiet (fail)
          go_wp2
          go_roundw
          case rel => exact ⟨k+1, by omega, by go_num, hd.step _, Lib.hid (by rw [H.out, S.out]; simp [ieq])⟩
          case measure => simp [intOf]; omega
        · have hb : (x != y) = true := by simpa using hxy
          have HX := Lib.hid hxy
          clear hxy
          go_wp2
          go_quiet (fail)
          go_wp2
          go_ret
          refine ⟨ret_bool ?_, hd.step _⟩
          rw [H.out, S.out]; simp [ieq, HX.out]
      · go_wp2
        go_ret
        refine ⟨ret_bool ?_, hd⟩
        rw [H.out, eqBy_end _ _ _ _ (by omega) (by rw [← HL.out]; omega)]
  · have hne : ((xs.length : Int) != (ys.length : Int)) = true := by rw [bne_iff_ne]; omega
    have HL := Lib.hid (eqBy_len ieq xs ys hl)
    clear hl
    go_enter Try.func33, Try.ntmps33
    go_wp2
    go_ret
    exact ⟨ret_bool HL.out.symm, Drawn.refl _⟩

set_option maxHeartbeats 400000 in
theorem equal_str (v u : Value) (F G : Nat → Prop) (xs ys : List ByteArray) (w : World) (h : Kd.string.Sl w F xs v) (g : Kd.string.Sl w G ys u) :
    Calls Try.prog 36 #[v, u] w fun e w' => e = .returned (.bool (eqBy seq xs ys)) ∧ Drawn w w' := by
  obtain ⟨A, c, rfl, hc1, hc2, hr⟩ := h
  obtain ⟨B, d, rfl, hd1, hd2, hs⟩ := g
  by_cases hl : xs.length = ys.length
  · have HL := Lib.hid hl
    have hne : ((xs.length : Int) != (ys.length : Int)) = false := by simp [hl]
    clear hl
    go_enter Try.func36, Try.ntmps36
    go_wp2
    go_loopw [5, 13] (fun _ i wr => ∃ k : Nat, k ≤ xs.length ∧ i = .int .i64 k ∧ Drawn w wr ∧ Hid (eqBy seq xs ys = eqBy seq (xs.drop k) (ys.drop k))) (fun _ i _ => xs.length - (intOf i).toNat)
    case atStart => exact ⟨0, Nat.zero_le _, rfl, Drawn.refl _, Lib.hid rfl⟩
    case round =>
      obtain ⟨k, hk, rfl, hd, H⟩ := hrel
      by_cases hlt : k < xs.length
      · have hlt2 : k < ys.length := by rw [← HL.out]; exact hlt
        obtain ⟨b, o, rfl, _, _, c0, _⟩ := str_at (hr.keep (hd.agree _)) k hlt
        obtain ⟨b', o', rfl, _, _, c1, _⟩ := str_at (hs.keep (hd.agree _)) k hlt2
        have S := Lib.hid (eqBy_step seq xs ys k hlt hlt2)
        have hlt' : (k : Int) < (xs.length : Int) := by omega
        have hlt2' : (k : Int) < (ys.length : Int) := by omega
        clear hr hs
        generalize xs[k] = x at *
        generalize ys[k] = y at *
        by_cases hxy : seq x y = true
        · have hb : (!x.toList == y.toList) = false := by simpa [seq] using hxy
          have HX := Lib.hid hxy
          clear hxy
          go_wp2
          go_quiet (fail)
          go_wp2
          go_roundw
          case rel => exact ⟨k+1, by omega, by go_num, hd.step _, Lib.hid (by rw [H.out, S.out, HX.out, Bool.true_and])⟩
          case measure => simp [intOf]; omega
        · have hb : (!x.toList == y.toList) = true := by simpa [seq] using hxy
          have HX := Lib.hid (eq_false_of_ne_true hxy)
          clear hxy
          go_wp2
          go_quiet (fail)
          go_wp2
          go_ret
          refine ⟨ret_bool ?_, hd.step _⟩
          rw [H.out, S.out, HX.out, Bool.false_and]
      · go_wp2
        go_ret
        refine ⟨ret_bool ?_, hd⟩
        rw [H.out, eqBy_end _ _ _ _ (by omega) (by rw [← HL.out]; omega)]
  · have hne : ((xs.length : Int) != (ys.length : Int)) = true := by rw [bne_iff_ne]; omega
    have HL := Lib.hid (eqBy_len seq xs ys hl)
    clear hl
    go_enter Try.func36, Try.ntmps36
    go_wp2
    go_ret
    exact ⟨ret_bool HL.out.symm, Drawn.refl _⟩
end Go.Proofs.Ythigebbihclbiaa
