/- The law TaskTails holds: for every shop the law returns true, and the shop read afterwards is as it was before. No condition. -/
import Derived.Test.YthigebbihclbiaaLwTails
import Derived.Test.YthigebbihclbiaaFrame
import Derived.Test.YthigebbihclbiaaRows
namespace Go.Proofs.Ythigebbihclbiaa
open Go.RowKit Go.WideShapes Go.ChangeShapes Go.Deep Go.ChangeAt
set_option maxRecDepth 100000

theorem taskTails_lifted (os : Os) (started : os.Started) (H : Type) (enc : TypeId × Value → H) :
    ReturnsInHanded {} Try.checked os 4 .any (Rows.taskTailsSpec.pre6 enc Try.prog Try.f4 Rows.taskTailsRow.domain false) (Rows.taskTailsSpec.post enc Try.prog Try.f4 false true false false) := by
  refine returnsInHanded_of_change (C := Try.checked) Try.own started (by kernel_rfl) Try.func4
    (ChangeSpec.witness6 (enc := enc) (C := Try.checked) false ⟨#[], #[.agg #[.slice none 0 0, .slice none 0 0]], []⟩ 8 (by kernel_rfl) (by kernel_rfl) (by kernel_rfl) (by kernel_rfl)) ?_
  intro W base args ds gs before hval0 hW hcnd _
  have hval : ∀ (j : Nat) t v, Try.f4.params[j]? = some t → args[j]? = some v → Value.okWide Try.prog W .any base t v := hval0
  have hW' := hW
  obtain ⟨p, q, hA0, hV, rfl, hfz, hnd⟩ := hW
  have hA : DataW.TrodAll enc Try.prog W 0 (fun _ => true) true Try.f4.params.toList args.toList ds p := hA0
  rw [Try.params4] at hA hval
  obtain ⟨v0, d0, rfl, rfl, h0⟩ := trodAll_one hA
  obtain ⟨rfl, rfl⟩ := trodVars_none hV
  obtain ⟨a, ha⟩ := shop_of (hval 0 25 v0 rfl rfl) h0
  refine (law_tails a _ v0 W ha).mono fun e W' ⟨he, hg⟩ => ?_
  subst he
  exact ⟨_, rfl, law_post hW' rfl rfl (by rw [Try.params4]; decide) rfl hg⟩

theorem taskTails_holds : Rows.TaskTailsSaid :=
  OpenClaim.holds_of_wide 4 Try.f4 rfl rfl rfl rfl rfl rfl rfl ⟨rfl, rfl, rfl, rfl, rfl⟩ rfl rfl rfl rfl rfl (by kernel_rfl) Try.func4 (by kernel_rfl)
    (of_decide_eq_true (by kernel_rfl)) (by unfold Func.isWrapper; first | (rw [if_pos (by decide +kernel)]; kernel_rfl) | (rw [if_neg (by decide +kernel)]; exact ⟨rfl, rfl⟩))
    (fun os started H enc _ => taskTails_lifted os started H enc)
#print axioms taskTails_holds
end Go.Proofs.Ythigebbihclbiaa
