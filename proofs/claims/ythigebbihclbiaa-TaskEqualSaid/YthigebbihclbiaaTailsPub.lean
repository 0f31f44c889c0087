/- task.Tails. -/
import Derived.Test.YthigebbihclbiaaOrderPub
import Derived.Test.YthigebbihclbiaaTails
namespace Go.Proofs.Ythigebbihclbiaa
open Go.RowKit

def tailsPub (s : Shop) : List Int := if checkOf s = 0 then tailsOf s.tasks else []
theorem durs_of (ts : List Task) (h : errFrom (taskErr ts) ts.length 0 = 0) : ∀ t ∈ ts, 1 ≤ t.dur ∧ t.dur ≤ 1048576 := by
  intro t ht
  obtain ⟨i, hi, rfl⟩ := List.getElem_of_mem ht
  obtain ⟨_, h1, h2, _⟩ := taskErr_after ts i hi (errFrom_zero _ _ _ h i (by omega) (by omega))
  exact ⟨h1, h2⟩

set_option maxHeartbeats 400000 in
theorem task_tails (s : Shop) (F : Nat → Prop) (v : Value) (w : World) (h : ShopAt w F s v) :
    Calls Try.prog 15 #[v] w (RetL (tailsPub s) (checkOf s) w) := by
  obtain ⟨v1, v2, rfl, h1, h2⟩ := h
  have hS := Lib.hid (show ∀ W, Below w.heap.size w W → ShopAt W F s (.agg #[v1, v2]) from fun W hW => ⟨v1, v2, rfl, h1.keep (Agree.below hW), h2.keep (Agree.below hW)⟩)
  have hB := Boxed.start w v1 v2 25
  have hcall := check_calls s F _ _ (hS.out _ hB.below)
  have HR := Lib.hid (show tailsPub s = if checkOf s = 0 then tailsOf s.tasks else [] from rfl)
  by_cases hc : checkOf s = 0
  · obtain ⟨l1, _, Z, _⟩ := zero_of_check s hc
    have HR2 := Lib.hid (HR.out.trans (if_pos hc))
    have hord := fun W (hW : Below w.heap.size w W) => tails_calls s F _ W (hS.out W hW) (afterOk_of _ Z) l1 (durs_of _ Z)
    rw [hc] at hcall ⊢
    clear hc Z h1 h2
    go_enter Try.func15, Try.ntmps15
    go_wp2_with fail
    refine hcall.mono ?_
    rintro e w1 ⟨rfl, hb1⟩
    have hB1 := hB.later hb1
    clear hB hcall hb1
    have k0 := hB1.c0
    have k1 := hB1.c1
    go_wp2_with fail
    refine (hord _ hB1.below).mono ?_
    intro e w2 hr2
    obtain ⟨ov, rfl, ho, hb2⟩ := hr2.sl
    go_wp2_with fail
    go_ret2
    exact ⟨ov, rfl, by rw [HR2.out]; exact sl_up (by decide) ho hB1.below.size, below_then hB1.below hB1.below.size hb2⟩
  · have HR2 := Lib.hid (HR.out.trans (if_neg hc))
    have ge : (checkOf s != 0) = true := by simpa using hc
    generalize checkOf s = cc at *
    clear hc h1 h2
    go_enter Try.func15, Try.ntmps15
    go_wp2_with fail
    refine hcall.mono ?_
    rintro e w1 ⟨rfl, hb1⟩
    have hB1 := hB.later hb1
    go_wp2_with fail
    go_ret2
    exact ⟨_, rfl, by rw [HR2.out]; exact Kd.Sl.nil _ _ _, hB1.below⟩
end Go.Proofs.Ythigebbihclbiaa
