/- slices.IndexFunc, slices.ContainsFunc at ints, tasks, stations: whatever predicate. -/
import Derived.Test.YthigebbihclbiaaKinds
namespace Go.Proofs.Ythigebbihclbiaa
open Go.RowKit

/-- What slices.IndexFunc returns, as far as it is asked for. -/
def Found (b : Bool) (w : World) (e : Ending) (w' : World) : Prop := ∃ r : Int, e = .returned (.int .i64 r) ∧ decide (0 ≤ r) = b ∧ Below w.heap.size w w'
/-- A predicate handed over: called at x it gives p x, and turns nothing. -/
def PredOn {α : Type} (g : Nat) (lb : Array Value) (arg : World → α → Value → Prop) (p : α → Bool) (xs : List α) (w : World) : Prop :=
  ∀ W x v, x ∈ xs → Below w.heap.size w W → arg W x v → Calls Try.prog g (#[v] ++ lb) W fun e w' => e = .returned (.bool (p x)) ∧ Below W.heap.size W w'

theorem any_step {α : Type} (p : α → Bool) (xs : List α) (k : Nat) (hk : k < xs.length) : (xs.drop k).any p = (p xs[k] || (xs.drop (k+1)).any p) := by
  rw [List.drop_eq_getElem_cons hk, List.any_cons]

set_option maxHeartbeats 400000 in
theorem indexFunc_int (v : Value) (F : Nat → Prop) (xs : List Int) (g : Nat) (lb : Array Value) (p : Int → Bool) (w : World) (h : Kd.int.Sl w F xs v)
    (eg : ∀ args w, (callFunc g args).run Try.prog w = .ok (.enter g args) w)
    (hp : PredOn g lb (fun W x v => v = .int .i64 x) p xs w) :
    Calls Try.prog 65 #[v, .func (.func g) #[] lb] w (Found (xs.any p) w) := by
  obtain ⟨A, c, rfl, hc1, hc2, hr⟩ := h
  go_enter Try.func65, Try.ntmps65
  go_wp2
  go_loopw [5, 8] (fun _ i wr => ∃ k : Nat, k ≤ xs.length ∧ i = .int .i64 k ∧ Below w.heap.size w wr ∧ Hid (xs.any p = (xs.drop k).any p)) (fun _ i _ => xs.length - (intOf i).toNat)
  case atStart => exact ⟨0, Nat.zero_le _, rfl, Below.refl _ _, Lib.hid rfl⟩
  case round =>
    obtain ⟨k, hk, rfl, hb, H⟩ := hrel
    by_cases hlt : k < xs.length
    · have hK := hr.keep (Agree.below hb)
      obtain ⟨b, o, rfl, _, _, c0⟩ := int_at hK k hlt
      have hcall := hp wr xs[k] _ (List.getElem_mem _) hb rfl
      have S := Lib.hid (any_step p xs k hlt)
      clear hp hr hK
      cases hq : p xs[k] with
      | true =>
        rw [hq] at hcall S
        clear hq
        go_wp2_with (refine hcall.mono ?_; rintro e w' ⟨rfl, hb'⟩)
        go_ret
        exact ⟨k, rfl, by rw [H.out, S.out]; simp, hb.trans (hb'.mono hb.size)⟩
      | false =>
        rw [hq] at hcall S
        clear hq
        go_wp2_with (refine hcall.mono ?_; rintro e w' ⟨rfl, hb'⟩)
        go_roundw
        case rel => exact ⟨k+1, by omega, by go_num, hb.trans (hb'.mono hb.size), Lib.hid (by rw [H.out, S.out, Bool.false_or])⟩
        case measure => simp [intOf]; omega
    · go_wp2
      go_ret
      exact ⟨-1, rfl, by rw [H.out, List.drop_of_length_le (by omega)]; rfl, hb⟩

set_option maxHeartbeats 400000 in
theorem containsFunc_int (v : Value) (F : Nat → Prop) (xs : List Int) (g : Nat) (lb : Array Value) (p : Int → Bool) (w : World) (h : Kd.int.Sl w F xs v)
    (eg : ∀ args w, (callFunc g args).run Try.prog w = .ok (.enter g args) w)
    (hp : PredOn g lb (fun W x v => v = .int .i64 x) p xs w) :
    Calls Try.prog 50 #[v, .func (.func g) #[] lb] w fun e w' => e = .returned (.bool (xs.any p)) ∧ Below w.heap.size w w' := by
  have hcall := indexFunc_int v F xs g lb p w h eg hp
  clear hp h
  go_enter Try.func50, Try.ntmps50
  go_wp2_with (refine hcall.mono ?_; rintro e w' ⟨r, rfl, hr, hb⟩; have HR := Lib.hid hr; clear hr)
  go_ret
  exact ⟨ret_bool (by rw [← HR.out]), hb⟩

set_option maxHeartbeats 400000 in
theorem indexFunc_task (v : Value) (F : Nat → Prop) (xs : List Task) (g : Nat) (lb : Array Value) (p : Task → Bool) (w : World) (h : Kd.task.Sl w F xs v)
    (eg : ∀ args w, (callFunc g args).run Try.prog w = .ok (.enter g args) w)
    (hp : PredOn g lb (fun W x v => ∃ cs, v = .agg cs ∧ Kd.task.K W F x cs.toList) p xs w) :
    Calls Try.prog 79 #[v, .func (.func g) #[] lb] w (Found (xs.any p) w) := by
  obtain ⟨A, c, rfl, hc1, hc2, hr⟩ := h
  go_enter Try.func79, Try.ntmps79
  go_wp2
  go_loopw [5, 8] (fun _ i wr => ∃ k : Nat, k ≤ xs.length ∧ i = .int .i64 k ∧ Below w.heap.size w wr ∧ Hid (xs.any p = (xs.drop k).any p)) (fun _ i _ => xs.length - (intOf i).toNat)
  case atStart => exact ⟨0, Nat.zero_le _, rfl, Below.refl _ _, Lib.hid rfl⟩
  case round =>
    obtain ⟨k, hk, rfl, hb, H⟩ := hrel
    by_cases hlt : k < xs.length
    · have hK := hr.keep (Agree.below hb)
      obtain ⟨b, o, A2, a2, rfl, _, _, c0, c1, c2, c3, hu⟩ := task_at hK k hlt
      have hcall := hp wr xs[k] (.agg #[.string xs[k].name, .int .i64 xs[k].dur, .string xs[k].tool, .slice A2 xs[k].after.length a2]) (List.getElem_mem _) hb ⟨_, rfl, hu⟩
      have S := Lib.hid (any_step p xs k hlt)
      clear hp hr hK
      cases hq : p xs[k] with
      | true =>
        rw [hq] at hcall S
        clear hq
        go_wp2_with (refine hcall.mono ?_; rintro e w' ⟨rfl, hb'⟩)
        go_ret
        exact ⟨k, rfl, by rw [H.out, S.out]; simp, hb.trans (hb'.mono hb.size)⟩
      | false =>
        rw [hq] at hcall S
        clear hq
        go_wp2_with (refine hcall.mono ?_; rintro e w' ⟨rfl, hb'⟩)
        go_roundw
        case rel => exact ⟨k+1, by omega, by go_num, hb.trans (hb'.mono hb.size), Lib.hid (by rw [H.out, S.out, Bool.false_or])⟩
        case measure => simp [intOf]; omega
    · go_wp2
      go_ret
      exact ⟨-1, rfl, by rw [H.out, List.drop_of_length_le (by omega)]; rfl, hb⟩

set_option maxHeartbeats 400000 in
theorem containsFunc_task (v : Value) (F : Nat → Prop) (xs : List Task) (g : Nat) (lb : Array Value) (p : Task → Bool) (w : World) (h : Kd.task.Sl w F xs v)
    (eg : ∀ args w, (callFunc g args).run Try.prog w = .ok (.enter g args) w)
    (hp : PredOn g lb (fun W x v => ∃ cs, v = .agg cs ∧ Kd.task.K W F x cs.toList) p xs w) :
    Calls Try.prog 68 #[v, .func (.func g) #[] lb] w fun e w' => e = .returned (.bool (xs.any p)) ∧ Below w.heap.size w w' := by
  have hcall := indexFunc_task v F xs g lb p w h eg hp
  clear hp h
  go_enter Try.func68, Try.ntmps68
  go_wp2_with (refine hcall.mono ?_; rintro e w' ⟨r, rfl, hr, hb⟩; have HR := Lib.hid hr; clear hr)
  go_ret
  exact ⟨ret_bool (by rw [← HR.out]), hb⟩

set_option maxHeartbeats 400000 in
theorem indexFunc_station (v : Value) (F : Nat → Prop) (xs : List Station) (g : Nat) (lb : Array Value) (p : Station → Bool) (w : World) (h : Kd.station.Sl w F xs v)
    (eg : ∀ args w, (callFunc g args).run Try.prog w = .ok (.enter g args) w)
    (hp : PredOn g lb (fun W x v => ∃ cs, v = .agg cs ∧ Kd.station.K W F x cs.toList) p xs w) :
    Calls Try.prog 80 #[v, .func (.func g) #[] lb] w (Found (xs.any p) w) := by
  obtain ⟨A, c, rfl, hc1, hc2, hr⟩ := h
  go_enter Try.func80, Try.ntmps80
  go_wp2
  go_loopw [5, 8] (fun _ i wr => ∃ k : Nat, k ≤ xs.length ∧ i = .int .i64 k ∧ Below w.heap.size w wr ∧ Hid (xs.any p = (xs.drop k).any p)) (fun _ i _ => xs.length - (intOf i).toNat)
  case atStart => exact ⟨0, Nat.zero_le _, rfl, Below.refl _ _, Lib.hid rfl⟩
  case round =>
    obtain ⟨k, hk, rfl, hb, H⟩ := hrel
    by_cases hlt : k < xs.length
    · have hK := hr.keep (Agree.below hb)
      obtain ⟨b, o, A2, a2, rfl, _, _, c0, c1, hu⟩ := station_at hK k hlt
      have hcall := hp wr xs[k] (.agg #[.string xs[k].name, .slice A2 xs[k].tools.length a2]) (List.getElem_mem _) hb ⟨_, rfl, hu⟩
      have S := Lib.hid (any_step p xs k hlt)
      clear hp hr hK
      cases hq : p xs[k] with
      | true =>
        rw [hq] at hcall S
        clear hq
        go_wp2_with (refine hcall.mono ?_; rintro e w' ⟨rfl, hb'⟩)
        go_ret
        exact ⟨k, rfl, by rw [H.out, S.out]; simp, hb.trans (hb'.mono hb.size)⟩
      | false =>
        rw [hq] at hcall S
        clear hq
        go_wp2_with (refine hcall.mono ?_; rintro e w' ⟨rfl, hb'⟩)
        go_roundw
        case rel => exact ⟨k+1, by omega, by go_num, hb.trans (hb'.mono hb.size), Lib.hid (by rw [H.out, S.out, Bool.false_or])⟩
        case measure => simp [intOf]; omega
    · go_wp2
      go_ret
      exact ⟨-1, rfl, by rw [H.out, List.drop_of_length_le (by omega)]; rfl, hb⟩

set_option maxHeartbeats 400000 in
theorem containsFunc_station (v : Value) (F : Nat → Prop) (xs : List Station) (g : Nat) (lb : Array Value) (p : Station → Bool) (w : World) (h : Kd.station.Sl w F xs v)
    (eg : ∀ args w, (callFunc g args).run Try.prog w = .ok (.enter g args) w)
    (hp : PredOn g lb (fun W x v => ∃ cs, v = .agg cs ∧ Kd.station.K W F x cs.toList) p xs w) :
    Calls Try.prog 70 #[v, .func (.func g) #[] lb] w fun e w' => e = .returned (.bool (xs.any p)) ∧ Below w.heap.size w w' := by
  have hcall := indexFunc_station v F xs g lb p w h eg hp
  clear hp h
  go_enter Try.func70, Try.ntmps70
  go_wp2_with (refine hcall.mono ?_; rintro e w' ⟨r, rfl, hr, hb⟩; have HR := Lib.hid hr; clear hr)
  go_ret
  exact ⟨ret_bool (by rw [← HR.out]), hb⟩
end Go.Proofs.Ythigebbihclbiaa
