/- The law TaskLoads holds: for every shop and every list of ints the law returns true, and both arguments read afterwards as they read before. No condition. -/
import Derived.Test.YthigebbihclbiaaLwLoads
import Derived.Test.YthigebbihclbiaaFrame
import Derived.Test.YthigebbihclbiaaRows
namespace Go.Proofs.Ythigebbihclbiaa
open Go.RowKit Go.WideShapes Go.ChangeShapes Go.Deep Go.ChangeAt
set_option maxRecDepth 100000

/-- A list of ints handed over. -/
theorem ints_of {H : Type} {enc : TypeId × Value → H} {W : World} {base : Nat} {v : Value} {d : DataW H} {p : List MemPlace} (hv : Value.okWide Try.prog W .any base 31 v) (h : DataW.Trod enc Try.prog W 0 (fun _ => true) true 31 v d p) : ∃ xs, Kd.int.Sl W (fun _ => True) xs v := by
  obtain ⟨a, len, cap, rfl⟩ := okWide_slice Try.underlying31 hv
  obtain ⟨n, hn⟩ := h
  obtain ⟨xs, u, e, hs⟩ := reads_slice (d := Kd.int) Nat.one_pos Try.underlying31 (by kernel_rfl) reads_int _ _ _ hn
  simp [Value.cells] at e
  subst e
  exact ⟨xs, hs⟩

theorem taskLoads_lifted (os : Os) (started : os.Started) (H : Type) (enc : TypeId × Value → H) :
    ReturnsInHanded {} Try.checked os 6 .any (Rows.taskLoadsSpec.pre6 enc Try.prog Try.f6 Rows.taskLoadsRow.domain false) (Rows.taskLoadsSpec.post enc Try.prog Try.f6 false true false false) := by
  refine returnsInHanded_of_change (C := Try.checked) Try.own started (by kernel_rfl) Try.func6
    (ChangeSpec.witness6 (enc := enc) (C := Try.checked) false ⟨#[], #[.agg #[.slice none 0 0, .slice none 0 0], .slice none 0 0], []⟩ 8 (by kernel_rfl) (by kernel_rfl) (by kernel_rfl) (by kernel_rfl)) ?_
  intro W base args ds gs before hval0 hW hcnd _
  have hval : ∀ (j : Nat) t v, Try.f6.params[j]? = some t → args[j]? = some v → Value.okWide Try.prog W .any base t v := hval0
  have hW' := hW
  obtain ⟨p, q, hA0, hV, rfl, hfz, hnd⟩ := hW
  have hA : DataW.TrodAll enc Try.prog W 0 (fun _ => true) true Try.f6.params.toList args.toList ds p := hA0
  rw [Try.params6] at hA hval
  obtain ⟨v0, v1, d0, d1, p0, p1, rfl, rfl, rfl, h0, h1⟩ := trodAll_two hA
  obtain ⟨rfl, rfl⟩ := trodVars_none hV
  obtain ⟨a, ha⟩ := shop_of (hval 0 25 v0 rfl rfl) h0
  obtain ⟨b, hb⟩ := ints_of (hval 1 31 v1 rfl rfl) h1
  refine (law_loads a b _ _ v0 v1 W ha hb).mono fun e W' ⟨he, hg⟩ => ?_
  subst he
  exact ⟨_, rfl, law_post hW' rfl rfl (by rw [Try.params6]; decide) rfl hg⟩

theorem taskLoads_holds : Rows.TaskLoadsSaid :=
  OpenClaim.holds_of_wide 6 Try.f6 rfl rfl rfl rfl rfl rfl rfl ⟨rfl, rfl, rfl, rfl, rfl⟩ rfl rfl rfl rfl rfl (by kernel_rfl) Try.func6 (by kernel_rfl)
    (of_decide_eq_true (by kernel_rfl)) (by unfold Func.isWrapper; first | (rw [if_pos (by decide +kernel)]; kernel_rfl) | (rw [if_neg (by decide +kernel)]; exact ⟨rfl, rfl⟩))
    (fun os started H enc _ => taskLoads_lifted os started H enc)
#print axioms taskLoads_holds
end Go.Proofs.Ythigebbihclbiaa
