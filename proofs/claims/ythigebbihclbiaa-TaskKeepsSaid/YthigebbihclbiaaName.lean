/- Names: the contracts of dowellaw49.name and dowellaw49.has. -/
import Derived.Test.YthigebbihclbiaaProg
import Derived.Test.YthigebbihclbiaaOwn
import Derived.WalkKit
import Derived.LoopTactic
import Derived.Tactics
import Derived.Deep.LoopGhost
import Derived.Deep.QuietTactic
import Derived.BigQuiet
import Derived.Outline
namespace Go.Proofs.Ythigebbihclbiaa
open Go.RowKit

theorem ret_bool {a b : Bool} (h : a = b) : Ending.returned (.bool a) = .returned (.bool b) := by rw [h]
theorem ret_int {k : IntKind} {a b : Int} (h : a = b) : Ending.returned (.int k a) = .returned (.int k b) := by rw [h]

def good (c : UInt8) : Bool := decide (33 ≤ (c.toNat : Int)) && decide ((c.toNat : Int) ≤ 126)
/-- A name. -/
def nameOk (s : ByteArray) : Bool := decide (1 ≤ s.size) && decide (s.size ≤ 40) && s.data.toList.all good

theorem all_step (s : ByteArray) (k : Nat) (hk : k < s.size) : (s.data.toList.drop k).all good = (good s[k] && (s.data.toList.drop (k+1)).all good) := by
  have hk' : k < s.data.toList.length := by simpa using hk
  rw [List.drop_eq_getElem_cons hk', List.all_cons]
  rfl

set_option maxHeartbeats 400000 in
theorem lawname_calls (s : ByteArray) (w : World) (hm : s.size ≤ 9223372036854775807) :
    Calls Try.prog 59 #[.string s] w fun e w' => e = .returned (.bool (nameOk s)) ∧ w = w' := by
  go_enter Try.func59, Try.ntmps59
  go_wp2
  go_loop [3] (fun i => ∃ k : Nat, k ≤ s.size ∧ i = .int .i64 k ∧ Hid (s.data.toList.all good = (s.data.toList.drop k).all good)) (fun i => s.size - (intOf i).toNat)
  case atStart => exact ⟨0, Nat.zero_le _, rfl, Lib.hid rfl⟩
  case round =>
    obtain ⟨k, hk, rfl, H⟩ := hrel
    by_cases hlt : k < s.size
    · have S := Lib.hid (all_step s k hlt)
      go_wp2
      rotate_left 1
      · go_round
        case rel => exact ⟨k+1, by omega, by go_num, Lib.hid (by rw [H.out, S.out, show good s[k] = true by simp [good]; omega, Bool.true_and])⟩
        case measure => simp [intOf]; omega
      all_goals
        go_ret
        refine ⟨ret_bool ?_, rfl⟩
        have hg : good s[k] = false := by simp only [good, Bool.and_eq_false_iff, decide_eq_false_iff_not]; omega
        rw [nameOk, H.out, S.out, hg, Bool.false_and, Bool.and_false]
    · have E : Hid (s.data.toList.all good = true) := Lib.hid (by rw [H.out, List.drop_of_length_le (by simp; omega)]; rfl)
      go_wp2
      all_goals
        go_ret
        refine ⟨ret_bool ?_, rfl⟩
        rw [nameOk, E.out, Bool.and_true]
        first
        | (rw [show decide (1 ≤ s.size) = true from decide_eq_true (by omega), Bool.true_and]; apply decide_eq_decide.2; omega)
        | (rw [show decide (1 ≤ s.size) = false from decide_eq_false (by omega), Bool.false_and])

theorem contains_step (xs : List Int) (k : Nat) (a : Int) (hk : k < xs.length) : (xs.drop k).contains a = ((xs[k] == a) || (xs.drop (k+1)).contains a) := by
  rw [List.drop_eq_getElem_cons hk, List.contains_cons, BEq.comm]

/-- A slice of ints, an element read. -/
theorem int_at {w : World} {F : Nat → Prop} {A : Option Addr} {xs : List Int} (h : Kd.int.Row w F A xs) (k : Nat) (hk : k < xs.length) : ∃ b o, A = some ⟨b, o, none⟩ ∧ F b ∧ b < w.heap.size ∧ w.cell? ⟨b, o + k, none⟩ = some (.int .i64 xs[k]) := by
  obtain ⟨b, o, cs, hA, hb, hK, hc⟩ := h k hk
  obtain ⟨rfl, _⟩ := hK
  have := hc 0 _ rfl
  exact ⟨b, o, hA, hb, World.block_lt_of_cell? w _ this, by simpa [Kd.int, Kd.scal] using this⟩

set_option maxHeartbeats 400000 in
theorem has_calls (v : Value) (F : Nat → Prop) (xs : List Int) (a : Int) (w : World) (h : Kd.int.Sl w F xs v) :
    Calls Try.prog 22 #[v, .int .i64 a] w fun e w' => e = .returned (.bool (xs.contains a)) ∧ Drawn w w' := by
  obtain ⟨A, c, rfl, hc1, hc2, hr⟩ := h
  go_enter Try.func22, Try.ntmps22
  go_wp2
  go_loopw [5] (fun i wr => ∃ k : Nat, k ≤ xs.length ∧ i = .int .i64 k ∧ Drawn w wr ∧ Hid (xs.contains a = (xs.drop k).contains a)) (fun i _ => xs.length - (intOf i).toNat)
  case atStart => exact ⟨0, Nat.zero_le _, rfl, Drawn.refl _, Lib.hid rfl⟩
  case round =>
    obtain ⟨k, hk, rfl, hd, H⟩ := hrel
    by_cases hlt : k < xs.length
    · obtain ⟨b, o, rfl, _, _, hc⟩ := int_at (hr.keep (hd.agree _)) k hlt
      have S := Lib.hid (contains_step xs k a hlt)
      generalize xs[k] = x at *
      go_wp2
      · go_ret
        refine ⟨ret_bool ?_, hd⟩
        rw [H.out, S.out]; simp_all
      · go_roundw
        case rel => exact ⟨k+1, by omega, by go_num, hd, Lib.hid (by rw [H.out, S.out]; simp_all)⟩
        case measure => simp [intOf]; omega
    · go_wp2
      go_ret
      refine ⟨ret_bool ?_, hd⟩
      rw [H.out, List.drop_of_length_le (by omega)]; rfl
end Go.Proofs.Ythigebbihclbiaa
