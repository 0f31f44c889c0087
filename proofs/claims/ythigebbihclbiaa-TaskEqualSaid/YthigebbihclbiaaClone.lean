/- slices.Clone at ints and strings. -/
import Derived.Test.YthigebbihclbiaaDelete
namespace Go.Proofs.Ythigebbihclbiaa
open Go.RowKit

theorem Kd.row_news {α : Type} {enc : α → Value} {P : α → Prop} {h1 : ∀ x, (enc x).oneCell' = true} {w : World} {F : Nat → Prop} {ad : Addr} {xs : List α} (h : (Kd.scal enc P h1).Row w F (some ad) xs) (o : Obj) :
    ∀ j u, (xs.map enc)[j]? = some u → (w.alloc o).cell? (ad.add j) = some u := by
  intro j u hj
  obtain ⟨hlt, he⟩ := List.getElem?_eq_some_iff.1 hj
  rw [List.length_map] at hlt
  obtain ⟨b, o', cs, hA, _, ⟨rfl, _⟩, hc⟩ := h j hlt
  obtain rfl := Option.some.inj hA
  rw [List.getElem_map] at he
  subst he
  have := hc 0 _ rfl
  have ha : (⟨b, o', none⟩ : Addr).add j = ⟨b, o' + (j * 1 + 0), none⟩ := by unfold Addr.add; split <;> simp_all
  rw [ha]
  exact Lib.cell?_alloc_some _ this
theorem Kd.row_none {α : Type} {d : Kd α} {w : World} {F : Nat → Prop} {xs : List α} (h : d.Row w F none xs) : xs = [] := by
  cases xs with
  | nil => rfl
  | cons x xs =>
    obtain ⟨b, o, cs, hA, _⟩ := h 0 (by simp)
    cases hA
theorem Kd.row_all {α : Type} {enc : α → Value} {P : α → Prop} {h1 : ∀ x, (enc x).oneCell' = true} {w : World} {F : Nat → Prop} {A : Option Addr} {xs : List α} (h : (Kd.scal enc P h1).Row w F A xs) : ∀ x ∈ xs, P x := by
  intro x hx
  obtain ⟨i, hi, rfl⟩ := List.getElem_of_mem hx
  obtain ⟨b, o', cs, hA, _, ⟨_, hP⟩, hc⟩ := h i hi
  exact hP
theorem string_info : (Try.prog.info? 9).map (fun i => (i.zero, i.size, i.bytes)) = some (some (.string ⟨#[]⟩), 1, 16) := by kernel_rfl

set_option maxHeartbeats 1000000 in
theorem clone_int (v : Value) (F : Nat → Prop) (xs : List Int) (w : World) (h : Kd.int.Sl w F xs v) (hl : xs.length ≤ 1000000) :
    Calls Try.prog 48 #[v] w fun e w' => ∃ v', e = .returned v' ∧ Kd.int.Own 3 w' w.heap.size Kd.NoB v' xs ∧ Below w.heap.size w w' := by
  obtain ⟨A, c, rfl, hc1, hc2, hr⟩ := h
  cases A with
  | none =>
    obtain rfl := Kd.row_none hr
    refine (AnyE.slices_Clone_nil Try.laysCloneInt _ c w).mono ?_
    rintro e w' ⟨rfl, rfl⟩
    exact ⟨_, rfl, Kd.Own.nil _ _ _ _ _, Below.refl _ _⟩
  | some ad =>
    have q22 : ∀ (w : World) (a : Option Addr) (n c n' c' : Nat), (binOp .eql 31 (.slice a n c) (.slice none n' c')).run Try.prog w = .ok (.bool a.isNone) w := fun w a n c n' c' => Lib.run_eql_slice_nil w _ _ a n c n' c' Try.underlying31
    have HN := Lib.hid (Kd.row_news (enc := Value.int .i64) hr (.cells #[] 3))
    have HP := Lib.hid (Kd.row_all (enc := Value.int .i64) hr)
    obtain ⟨i0, hi, hzz⟩ := Option.map_eq_some_iff.1 int_info
    simp only [Prod.mk.injEq] at hzz
    obtain ⟨hz0, hz1, hz2⟩ := hzz
    clear hr
    go_enter Try.func48, Try.ntmps48
    go_wp2_with (at_builtin; refine wpList_append_own_at _ rfl _ _ 31 rfl w.heap.size 3 i0 _ 1 8 Try.underlying31 hi hz0 hz1 hz2 rfl (by decide) _ _ _ rfl (World.ownsRow_made w #[] 0 (Nat.le_refl _) (Nat.zero_le _) (by simp)) ad xs.length c (xs.map (Value.int .i64)) rfl ?qc1 ?qc2 ?qc3 ?qc4 ?qc5 ?qc6 ?_)
    case qc1 => simp
    case qc2 => exact HN.out
    case qc3 => intro u hu; obtain ⟨x, _, rfl⟩ := List.mem_map.1 hu; rfl
    case qc4 => simp only [maxLen]; omega
    case qc5 => omega
    case qc6 => simp
    intro v' w1 hown hgrow hnil _
    go_wp2
    go_ret
    refine ⟨v', rfl, ⟨_, by simpa [Kd.int, Kd.scal] using hown, Kd.Cs.scal_iff.2 ⟨by simp, HP.out⟩, fun _ hb => hb.elim⟩, ?_⟩
    exact ((Below.refl _ w).alloc (Nat.le_refl _) _).grown hgrow (by simp) (by intro k hk; simp [Value.ownBlock] at hk; omega)

set_option maxHeartbeats 1000000 in
theorem clone_str (v : Value) (F : Nat → Prop) (xs : List ByteArray) (w : World) (h : Kd.string.Sl w F xs v) (hl : xs.length ≤ 1000000) :
    Calls Try.prog 52 #[v] w fun e w' => ∃ v', e = .returned v' ∧ Kd.string.Own 9 w' w.heap.size Kd.NoB v' xs ∧ Below w.heap.size w w' := by
  obtain ⟨A, c, rfl, hc1, hc2, hr⟩ := h
  cases A with
  | none =>
    obtain rfl := Kd.row_none hr
    refine (AnyE.slices_Clone_nil Try.laysCloneStr _ c w).mono ?_
    rintro e w' ⟨rfl, rfl⟩
    exact ⟨_, rfl, Kd.Own.nil _ _ _ _ _, Below.refl _ _⟩
  | some ad =>
    have q22 : ∀ (w : World) (a : Option Addr) (n c n' c' : Nat), (binOp .eql 57 (.slice a n c) (.slice none n' c')).run Try.prog w = .ok (.bool a.isNone) w := fun w a n c n' c' => Lib.run_eql_slice_nil w _ _ a n c n' c' Try.underlying57
    have HN := Lib.hid (Kd.row_news (enc := Value.string) hr (.cells #[] 9))
    have HP := Lib.hid (Kd.row_all (enc := Value.string) hr)
    obtain ⟨i0, hi, hzz⟩ := Option.map_eq_some_iff.1 string_info
    simp only [Prod.mk.injEq] at hzz
    obtain ⟨hz0, hz1, hz2⟩ := hzz
    clear hr
    go_enter Try.func52, Try.ntmps52
    go_wp2_with (at_builtin; refine wpList_append_own_at _ rfl _ _ 57 rfl w.heap.size 9 i0 _ 1 16 Try.underlying57 hi hz0 hz1 hz2 rfl (by decide) _ _ _ rfl (World.ownsRow_made w #[] 0 (Nat.le_refl _) (Nat.zero_le _) (by simp)) ad xs.length c (xs.map (Value.string)) rfl ?qc1 ?qc2 ?qc3 ?qc4 ?qc5 ?qc6 ?_)
    case qc1 => simp
    case qc2 => exact HN.out
    case qc3 => intro u hu; obtain ⟨x, _, rfl⟩ := List.mem_map.1 hu; rfl
    case qc4 => simp only [maxLen]; omega
    case qc5 => omega
    case qc6 => simp
    intro v' w1 hown hgrow hnil _
    go_wp2
    go_ret
    refine ⟨v', rfl, ⟨_, by simpa [Kd.string, Kd.scal] using hown, Kd.Cs.scal_iff.2 ⟨by simp, HP.out⟩, fun _ hb => hb.elim⟩, ?_⟩
    exact ((Below.refl _ w).alloc (Nat.le_refl _) _).grown hgrow (by simp) (by intro k hk; simp [Value.ownBlock] at hk; omega)
end Go.Proofs.Ythigebbihclbiaa
