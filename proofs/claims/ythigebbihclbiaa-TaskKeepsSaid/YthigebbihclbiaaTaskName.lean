/- task.name. -/
import Derived.Test.YthigebbihclbiaaKinds
import Derived.Test.YthigebbihclbiaaShelf
namespace Go.Proofs.Ythigebbihclbiaa
open Go.RowKit

def badRune (r : Nat) : Bool := decide ((r : Int) < 33) || decide (126 < (r : Int))

set_option maxHeartbeats 400000 in
theorem name1 (w : World) : PredAt Try.prog 78 #[] encR badRune w := fun W x _ => by
  show Calls Try.prog 78 #[encR x] W _
  unfold encR
  go_enter Try.func78, Try.ntmps78
  go_wp2
  all_goals
    go_ret
    exact ⟨ret_bool (by simp [badRune, *]), 0, rfl⟩

theorem decode_good (s : ByteArray) (i : Nat) (h : i < s.size) : badRune (Utf8.decode s i).1 = !good s[i] ∧ (good s[i] = true → (Utf8.decode s i).2 = 1) := by
  have hb : s.get! i = s[i] := by
    show s.data[i]! = s.data[i]
    exact getElem!_pos s.data i h
  by_cases h0 : s[i].toNat < 128
  · have hd : Utf8.decode s i = (s[i].toNat, 1) := by
      unfold Utf8.decode
      simp only [Nat.add_zero, hb]
      rw [if_pos h0]
    rw [hd]
    refine ⟨?_, fun _ => rfl⟩
    simp only [badRune, good, Bool.not_and]
    congr 1 <;> rw [← decide_not] <;> apply decide_eq_decide.2 <;> omega
  · have hg : good s[i] = false := by simp only [good, Bool.and_eq_false_iff, decide_eq_false_iff_not]; omega
    rw [hg]
    refine ⟨?_, fun h => by cases h⟩
    have hr : 128 ≤ (Utf8.decode s i).1 := by
      unfold Utf8.decode
      simp only [Nat.add_zero, hb]
      rw [if_neg h0]
      have hre : 128 ≤ Utf8.runeError := by decide
      repeat' split
      all_goals first | exact hre | (simp only; omega) | (rename_i h1; simp at h1; simp only; omega)
    simp only [badRune, Bool.not_false, Bool.or_eq_true, decide_eq_true_eq]
    omega

theorem idx_good (s : ByteArray) : ∀ (f pos : Nat), s.size - pos ≤ f → decide (0 ≤ Lib.idxFuncFrom badRune true s f pos) = !(s.data.toList.drop pos).all good := by
  intro f
  induction f with
  | zero =>
    intro pos h
    rw [List.drop_of_length_le (by simp; omega)]
    rfl
  | succ f ih =>
    intro pos h
    unfold Lib.idxFuncFrom
    by_cases hp : pos < s.size
    · obtain ⟨h1, h2⟩ := decode_good s pos hp
      rw [if_pos hp, all_step s pos hp, h1]
      cases hg : good s[pos] with
      | true =>
        rw [h2 hg, if_neg (by simp), ih (pos + 1) (by omega), Bool.true_and]
      | false =>
        rw [if_pos (by rfl), Bool.false_and]
        simp
    · rw [if_neg hp, List.drop_of_length_le (by simp; omega)]
      rfl

set_option maxHeartbeats 400000 in
theorem name_calls (s : ByteArray) (w : World) (hm : s.size ≤ 9223372036854775807) :
    Calls Try.prog 67 #[.string s] w fun e w' => e = .returned (.bool (nameOk s)) ∧ Below w.heap.size w w' := by
  have eg : ∀ args w, (callFunc 78 args).run Try.prog w = .ok (.enter 78 args) w := enters_of Try.func78 (by kernel_rfl) rfl
  have hcall := Any.strings_ContainsFunc Try.laysContainsFunc 78 #[] eg badRune s w (name1 w)
  have hx := idx_good s s.size 0 (Nat.le_refl _)
  rw [show Lib.idxFunc badRune true s = Lib.idxFuncFrom badRune true s s.size 0 from rfl, hx, List.drop_zero] at hcall
  clear hx eg
  change Calls Try.prog 77 _ _ _ at hcall
  have HE := Lib.hid (show nameOk s = (decide (1 ≤ s.size) && decide (s.size ≤ 40) && s.data.toList.all good) from rfl)
  generalize nameOk s = R at *
  generalize s.data.toList.all good = q at *
  by_cases h1 : 1 ≤ s.size
  · by_cases h2 : s.size ≤ 40
    · rw [decide_eq_true h1, decide_eq_true h2] at HE
      have t1 : decide (0 < (s.size : Int)) = true := decide_eq_true (by omega)
      have t2 : decide ((s.size : Int) ≤ 40) = true := decide_eq_true (by omega)
      go_enter Try.func67, Try.ntmps67
      go_wp2_with (refine hcall.mono ?_; rintro e w' ⟨rfl, hb⟩)
      go_ret
      exact ⟨ret_bool (by rw [HE.out]; simp), hb⟩
    · rw [decide_eq_false h2] at HE
      have t1 : decide (0 < (s.size : Int)) = true := decide_eq_true (by omega)
      have t2 : decide ((s.size : Int) ≤ 40) = false := decide_eq_false (by omega)
      go_enter Try.func67, Try.ntmps67
      go_wp2_with (refine hcall.mono ?_; rintro e w' ⟨rfl, hb⟩)
      go_ret
      exact ⟨ret_bool (by rw [HE.out]; simp), Below.refl _ _⟩
  · rw [decide_eq_false h1] at HE
    have t1 : decide (0 < (s.size : Int)) = false := decide_eq_false (by omega)
    go_enter Try.func67, Try.ntmps67
    go_wp2_with (refine hcall.mono ?_; rintro e w' ⟨rfl, hb⟩)
    go_ret
    exact ⟨ret_bool (by rw [HE.out]; simp), Below.refl _ _⟩
end Go.Proofs.Ythigebbihclbiaa
