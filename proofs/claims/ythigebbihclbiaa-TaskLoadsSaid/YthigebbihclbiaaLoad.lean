/- task.Load. -/
import Derived.Test.YthigebbihclbiaaLawCheck
import Derived.Test.YthigebbihclbiaaCritFacts
namespace Go.Proofs.Ythigebbihclbiaa
open Go.RowKit Go.Maps
set_option maxRecDepth 100000

theorem stPart_mem (x : Station) (k : Nat) (t : ByteArray) (y : Int) : y ∈ stPart x k t ↔ y = (k : Int) ∧ hasTool x t = true := by
  have hn := stPart_nil x k t
  have hall : ∀ z ∈ stPart x k t, z = (k : Int) := fun z hz => by
    unfold stPart at hz
    rcases List.mem_append.1 hz with hz | hz
    · split at hz
      · simpa using hz
      · cases hz
    · obtain ⟨_, _, rfl⟩ := List.mem_map.1 hz
      rfl
  constructor
  · intro hy
    refine ⟨hall y hy, ?_⟩
    cases hh : hasTool x t with
    | true => rfl
    | false =>
      rw [hh] at hn
      rw [List.isEmpty_iff.1 hn] at hy
      cases hy
  · rintro ⟨rfl, hh⟩
    rw [hh] at hn
    cases hl : stPart x k t with
    | nil => rw [hl] at hn; cases hn
    | cons a l =>
      rw [hl] at hall
      rw [hall a (List.mem_cons_self ..)]
      exact List.mem_cons_self ..
theorem tools_mem (ss : List Station) (t : ByteArray) (y : Int) : ∀ k, y ∈ toolsUpto ss k t ↔ y ∈ ableUpto ss t k
  | 0 => Iff.rfl
  | k + 1 => by
    rw [toolsUpto, ableUpto, List.mem_append, List.mem_append, tools_mem ss t y k]
    refine or_congr Iff.rfl ?_
    cases ss[k]? with
    | none => exact Iff.rfl
    | some x =>
      show y ∈ stPart x k t ↔ y ∈ (if hasTool x t = true then [(k : Int)] else [])
      rw [stPart_mem]
      split <;> simp_all
theorem out_any (ss : List Station) (t : ByteArray) (st : List Int) : (toolsOf ss t).any (fun x => !st.contains x) = !(ableOf ss t).all (fun x => st.contains x) := by
  rw [Bool.eq_iff_iff, List.any_eq_true, Bool.not_eq_true', List.all_eq_false]
  constructor
  · rintro ⟨x, hx, h⟩
    exact ⟨x, (tools_mem ss t x _).1 hx, by simpa using h⟩
  · rintro ⟨x, hx, h⟩
    exact ⟨x, (tools_mem ss t x _).2 hx, by simpa using h⟩

def outside (ss : List Station) (st : List Int) (t : Task) : Bool := (toolsOf ss t.tool).any (fun x => !st.contains x)
def loadSum (ss : List Station) (st : List Int) : List Task → Int
  | [] => 0
  | t :: ts => (if outside ss st t = true then 0 else t.dur) + loadSum ss st ts
theorem loadSum_snoc (ss : List Station) (st : List Int) (t : Task) : ∀ ts, loadSum ss st (ts ++ [t]) = loadSum ss st ts + (if outside ss st t = true then 0 else t.dur)
  | [] => by simp [loadSum]
  | x :: ts => by rw [List.cons_append, loadSum, loadSum, loadSum_snoc ss st t ts]; omega
theorem loadSum_bd (ss : List Station) (st : List Int) : ∀ ts : List Task, (∀ t ∈ ts, 1 ≤ t.dur ∧ t.dur ≤ 1048576) → 0 ≤ loadSum ss st ts ∧ loadSum ss st ts ≤ ts.length * 1048576
  | [], _ => by simp [loadSum]
  | t :: ts, h => by
    have h1 := loadSum_bd ss st ts (fun x hx => h x (List.mem_cons_of_mem _ hx))
    have h2 := h t (List.mem_cons_self ..)
    rw [loadSum]
    simp only [List.length_cons]
    split <;> omega
/-- The first error of Load for a valid shop. -/
def loadErr (s : Shop) (st : List Int) : Int := if st.length = 0 then 7 else afterErr s.stations.length (-1) none st
def loadOf (s : Shop) (st : List Int) : Int := if loadErr s st = 0 then (loadSum s.stations st s.tasks + st.length - 1) / st.length else 0

theorem load1 (st : List Int) (B : Nat) (v : Value) (F : Nat → Prop) (xs : List Int) (w : World) (hB : B < w.heap.size) (hc : w.cell? ⟨B, 0, none⟩ = some v) (hs : Kd.int.Sl w F st v) :
    PredOn 54 #[.pointer (some ⟨B, 0, none⟩)] (fun W x v => v = .int .i64 x) (fun x => !st.contains x) xs w := by
  rintro W x u hx hb rfl
  have hc' : W.cell? ⟨B, 0, none⟩ = some v := (hb.cell hB).trans hc
  obtain ⟨A, c, rfl, hc1, hc2, hr⟩ := hs.keep (Agree.below hb)
  have hcall := contains_int (.slice A st.length c) F st x W ⟨A, c, rfl, hc1, hc2, hr⟩
  show Calls Try.prog 54 #[_, _] W fun e w' => e = .returned (.bool (!st.contains x)) ∧ _
  generalize st.contains x = q at *
  clear hs hc hb hx
  go_enter Try.func54, Try.ntmps54
  go_wp2_with fail
  refine hcall.mono ?_
  rintro e w1 ⟨rfl, hb1⟩
  go_wp2_with fail
  go_ret
  exact ⟨rfl, hb1⟩
theorem eg_load1 : ∀ args w, (callFunc 54 args).run Try.prog w = .ok (.enter 54 args) w := enters_of Try.func54 (by kernel_rfl) rfl
end Go.Proofs.Ythigebbihclbiaa
