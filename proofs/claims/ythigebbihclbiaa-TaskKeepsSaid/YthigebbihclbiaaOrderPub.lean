/- task.Order. -/
import Derived.Test.YthigebbihclbiaaCheck
namespace Go.Proofs.Ythigebbihclbiaa
open Go.RowKit

/-- A list of ints and an error code. -/
def RetL (R : List Int) (c : Int) (w : World) (e : Ending) (w' : World) : Prop := ∃ v, e = .returned (.tuple #[v, .int .i64 c]) ∧ Kd.int.Sl w' (fun b => w.heap.size ≤ b) R v ∧ Below w.heap.size w w'
theorem RetInts.sl {R : List Int} {w w' : World} {e : Ending} (h : RetInts R w e w') : ∃ v, e = .returned v ∧ Kd.int.Sl w' (fun b => w.heap.size ≤ b) R v ∧ Below w.heap.size w w' := by
  obtain ⟨v, rfl, ho, hb⟩ := h
  exact ⟨v, rfl, ho.sl_to (by decide) (fun _ h => h.elim) (fun b h _ => h), hb⟩
theorem sl_up {α : Type} {d : Kd α} (hz : 0 < d.sz) {w : World} {B C : Nat} {xs : List α} {v : Value} (h : d.Sl w (fun b => C ≤ b) xs v) (hB : B ≤ C) : d.Sl w (fun b => B ≤ b) xs v := h.mono hz fun b hb _ => Nat.le_trans hB hb

def orderPub (s : Shop) : List Int := if checkOf s = 0 then orderOf s.tasks else []

theorem zero_of_check (s : Shop) (h : checkOf s = 0) : s.tasks.length ≤ 24 ∧ s.stations.length ≤ 8 ∧ errFrom (taskErr s.tasks) s.tasks.length 0 = 0 ∧ ¬ (orderOf s.tasks).length < s.tasks.length ∧ errFrom (stationErr s.stations) s.stations.length 0 = 0 ∧
    s.tasks.any (fun t => (toolsOf s.stations t.tool).isEmpty) = false := by
  unfold checkOf at h
  split at h
  · omega
  · rename_i h0
    unfold check0 at h
    split at h
    · rename_i h1
      unfold check1 at h
      split at h
      · omega
      · rename_i h2
        unfold check2 at h
        split at h
        · rename_i h3
          unfold check3 at h
          split at h
          · omega
          · rename_i h4
            exact ⟨by omega, by omega, h1, h2, h3, by simpa using h4⟩
        · rename_i h3; exact absurd h h3
    · rename_i h1; exact absurd h h1

set_option maxHeartbeats 400000 in
theorem task_order (s : Shop) (F : Nat → Prop) (v : Value) (w : World) (h : ShopAt w F s v) :
    Calls Try.prog 25 #[v] w (RetL (orderPub s) (checkOf s) w) := by
  obtain ⟨v1, v2, rfl, h1, h2⟩ := h
  have hS := Lib.hid (show ∀ W, Below w.heap.size w W → ShopAt W F s (.agg #[v1, v2]) from fun W hW => ⟨v1, v2, rfl, h1.keep (Agree.below hW), h2.keep (Agree.below hW)⟩)
  have hB := Boxed.start w v1 v2 25
  have hcall := check_calls s F _ _ (hS.out _ hB.below)
  have HR := Lib.hid (show orderPub s = if checkOf s = 0 then orderOf s.tasks else [] from rfl)
  by_cases hc : checkOf s = 0
  · obtain ⟨l1, _, Z, _⟩ := zero_of_check s hc
    have HR2 := Lib.hid (HR.out.trans (if_pos hc))
    have hord := fun W (hW : Below w.heap.size w W) => order_calls s F _ W (hS.out W hW) (afterOk_of _ Z) (by omega)
    rw [hc] at hcall ⊢
    clear hc Z h1 h2
    go_enter Try.func25, Try.ntmps25
    go_wp2_with fail
    refine hcall.mono ?_
    rintro e w1 ⟨rfl, hb1⟩
    have hB1 := hB.later hb1
    clear hB hcall hb1
    have k0 := hB1.c0
    have k1 := hB1.c1
    go_wp2_with fail
    refine (hord _ hB1.below).mono ?_
    intro e w2 hr2
    obtain ⟨ov, rfl, ho, hb2⟩ := hr2.sl
    go_wp2_with fail
    go_ret2
    exact ⟨ov, rfl, by rw [HR2.out]; exact sl_up (by decide) ho hB1.below.size, below_then hB1.below hB1.below.size hb2⟩
  · have HR2 := Lib.hid (HR.out.trans (if_neg hc))
    have ge : (checkOf s != 0) = true := by simpa using hc
    generalize checkOf s = cc at *
    clear hc h1 h2
    go_enter Try.func25, Try.ntmps25
    go_wp2_with fail
    refine hcall.mono ?_
    rintro e w1 ⟨rfl, hb1⟩
    have hB1 := hB.later hb1
    go_wp2_with fail
    go_ret2
    exact ⟨_, rfl, by rw [HR2.out]; exact Kd.Sl.nil _ _ _, hB1.below⟩
end Go.Proofs.Ythigebbihclbiaa
