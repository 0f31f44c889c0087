/- The law TaskChains holds: for every shop and every list of uint8 the law returns true, and both arguments read afterwards as they read before. No condition. -/
import Derived.Test.YthigebbihclbiaaLwChains
import Derived.Test.YthigebbihclbiaaFrame
import Derived.Test.YthigebbihclbiaaRows
namespace Go.Proofs.Ythigebbihclbiaa
open Go.RowKit Go.WideShapes Go.ChangeShapes Go.Deep Go.ChangeAt
set_option maxRecDepth 100000

section
variable {H : Type} {enc : TypeId × Value → H}
theorem reads_u8 {W : World} : Reads enc W 5 Kd.u8 := by
  intro n cs x hx
  obtain ⟨z, rfl, _, hw⟩ := DataW.trod_int Try.underlying5 hx
  simp [Lit.wf, IntKind.min, IntKind.max, IntKind.signed, IntKind.bits] at hw
  obtain ⟨k, rfl⟩ := Int.eq_ofNat_of_zero_le hw.1
  exact ⟨k, rfl, by omega⟩
/-- A list of uint8 handed over. -/
theorem u8s_of {W : World} {base : Nat} {v : Value} {d : DataW H} {p : List MemPlace} (hv : Value.okWide Try.prog W .any base 45 v) (h : DataW.Trod enc Try.prog W 0 (fun _ => true) true 45 v d p) : ∃ xs, Kd.u8.Sl W (fun _ => True) xs v := by
  obtain ⟨a, len, cap, rfl⟩ := okWide_slice Try.underlying45 hv
  obtain ⟨n, hn⟩ := h
  obtain ⟨xs, u, e, hs⟩ := reads_slice (d := Kd.u8) Nat.one_pos Try.underlying45 (by kernel_rfl) reads_u8 _ _ _ hn
  simp [Value.cells] at e
  subst e
  exact ⟨xs, hs⟩
end

theorem taskChains_lifted (os : Os) (started : os.Started) (H : Type) (enc : TypeId × Value → H) :
    ReturnsInHanded {} Try.checked os 5 .any (Rows.taskChainsSpec.pre6 enc Try.prog Try.f5 Rows.taskChainsRow.domain false) (Rows.taskChainsSpec.post enc Try.prog Try.f5 false true false false) := by
  refine returnsInHanded_of_change (C := Try.checked) Try.own started (by kernel_rfl) Try.func5
    (ChangeSpec.witness6 (enc := enc) (C := Try.checked) false ⟨#[], #[.agg #[.slice none 0 0, .slice none 0 0], .slice none 0 0], []⟩ 8 (by kernel_rfl) (by kernel_rfl) (by kernel_rfl) (by kernel_rfl)) ?_
  intro W base args ds gs before hval0 hW hcnd _
  have hval : ∀ (j : Nat) t v, Try.f5.params[j]? = some t → args[j]? = some v → Value.okWide Try.prog W .any base t v := hval0
  have hW' := hW
  obtain ⟨p, q, hA0, hV, rfl, hfz, hnd⟩ := hW
  have hA : DataW.TrodAll enc Try.prog W 0 (fun _ => true) true Try.f5.params.toList args.toList ds p := hA0
  rw [Try.params5] at hA hval
  obtain ⟨v0, v1, d0, d1, p0, p1, rfl, rfl, rfl, h0, h1⟩ := trodAll_two hA
  obtain ⟨rfl, rfl⟩ := trodVars_none hV
  obtain ⟨a, ha⟩ := shop_of (hval 0 25 v0 rfl rfl) h0
  obtain ⟨xs, hxs⟩ := u8s_of (hval 1 45 v1 rfl rfl) h1
  refine (law_chains a xs _ _ v0 v1 W ha hxs).mono fun e W' ⟨he, hg⟩ => ?_
  subst he
  exact ⟨_, rfl, law_post hW' rfl rfl (by rw [Try.params5]; decide) rfl hg⟩

theorem taskChains_holds : Rows.TaskChainsSaid :=
  OpenClaim.holds_of_wide 5 Try.f5 rfl rfl rfl rfl rfl rfl rfl ⟨rfl, rfl, rfl, rfl, rfl⟩ rfl rfl rfl rfl rfl (by kernel_rfl) Try.func5 (by kernel_rfl)
    (of_decide_eq_true (by kernel_rfl)) (by unfold Func.isWrapper; first | (rw [if_pos (by decide +kernel)]; kernel_rfl) | (rw [if_neg (by decide +kernel)]; exact ⟨rfl, rfl⟩))
    (fun os started H enc _ => taskChains_lifted os started H enc)
#print axioms taskChains_holds
end Go.Proofs.Ythigebbihclbiaa
