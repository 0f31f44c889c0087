/- task.tools: which stations have each tool: a map of slices. -/
import Derived.Test.YthigebbihclbiaaOrder
import Derived.Maps.OwnRows
import Derived.Maps.GroupsBeside
import Derived.Maps.Views
import Derived.Deep.DeepMust
namespace Go.Proofs.Ythigebbihclbiaa
open Go.RowKit Go.Maps
open Go.ChangeShapes (lits)

/-- Block b is a map that gives g key for each key; its rows lie from 'base' on. -/
def MapIs (w : World) (base b n : Nat) (g : ByteArray → List Int) : Prop :=
  ∃ D : DataW Unit, w.ownsGroups Try.prog 9 base 3 .i64 b n D ∧ IsMap D ∧ ∀ key : ByteArray, D.atKey (.string key.data.toList) .nil = if g key = [] then .nil else .slice (lits .i64 (g key)) []

def isNilD : DataW Unit → Bool
  | .nil => true
  | _ => false
theorem str_law : Keyed Try.prog 9 := string_keyed Try.underlying9
theorem lits_inj {xs ys : List Int} (h : lits (H := Unit) .i64 xs = lits .i64 ys) : xs = ys := by
  unfold lits at h
  exact (List.map_inj_right (fun a b hab => by cases hab; rfl)).1 h
theorem MapIs.below {w w' : World} {base b n : Nat} {g : ByteArray → List Int} (h : MapIs w base b n g) (hb : Below w.heap.size w w') : MapIs w' base b n g := by
  obtain ⟨D, h1, h2, h3⟩ := h
  exact ⟨D, h1.kept (Kd.grownBy_of_below hb none) (by simp) (fun _ _ _ x _ => by cases x.val.ownBlock <;> simp), h2, h3⟩
theorem MapIs.empty (w : World) : MapIs (w.alloc (.map #[] 0)) (w.heap.size + 1) w.heap.size 0 (fun _ => []) :=
  ⟨.map [], World.ownsGroups_made w _ _ _ _, isMap_empty, fun key => rfl⟩

theorem own_ne_box {α : Type} {d : Kd α} {e t : TypeId} {w : World} {base : Nat} {F : Nat → Prop} {v : Value} {xs : List α} {cs : Array Value} (h : d.Own e (w.alloc (.cells cs t)) base F v xs) (hne : e ≠ t) : v.ownBlock ≠ some w.heap.size := by
  obtain ⟨_, ⟨_, h1⟩, _⟩ := h
  rcases h1 with ⟨rfl, _⟩ | ⟨g, cap, cur, rfl, _, hh, _⟩
  · simp [Value.ownBlock]
  · intro he
    have : g = w.heap.size := by simpa [Value.ownBlock] using he
    subst this
    rw [heap_alloc_new] at hh
    injection hh with hh
    injection hh with _ ht
    exact hne ht.symm

section
variable {ops : Array Oper} {rest : List Oper} {o : Oper} {a : Act} {Q : Exit → Act → World → Prop}
/-- m[key], to be followed by an append to what it gives and a store of that. -/
theorem map_look (w : World) (hg : o.guard = none) (m x : Operand) (t : TypeId) (hop : o.op = Op.lookup t m x false) (ht : Try.prog.underlying t = some (.map 9 31))
    (base b n : Nat) (g : ByteArray → List Int) (hm : a.eval m = .map (some b)) (hown : MapIs w base b n g) (hn : n < 1000000) (key : ByteArray) (hx : a.eval x = .string key) (hk : key.size ≤ 9223372036854775807)
    (hK : ∀ v, Kd.int.Own 3 w base Kd.NoB v (g key) → (g key).length ≤ n → (∀ (w1 : World) (v' : Value) (i : Int), w.grownBy w1 v.ownBlock → Kd.int.Own 3 w1 base Kd.NoB v' (g key ++ [i]) → (0 ≤ i ∧ i < 1000000) → (v'.ownBlock = v.ownBlock ∨ ∃ c, v'.ownBlock = some c ∧ w.heap.size ≤ c) →
        ∃ w2, (Instr.mapUpdate t (.map (some b)) (.string key) v').run Try.prog w1 = .ok () w2 ∧ MapIs w2 base b (n + 1) (fun q => if q = key then g key ++ [i] else g q) ∧ w1.grownBy w2 (some b)) → wpList Try.prog ops Q rest (a.put o.dst v) w) :
    wpList Try.prog ops Q (o :: rest) a w := by
  obtain ⟨D, h1, h2, h3⟩ := hown
  have hkey : keyOf Try.prog 9 (.string key) = some (.string key.data.toList) := WideMaps.keyOf_string_mk Try.underlying9 (by simpa [maxLen] using hk)
  refine wpList_lookup_groups w hg m x t hop 9 31 3 .i64 str_law ht (by kernel_rfl) base b n D hm h1 (by simp only [maxLen]; omega) _ _ hx hkey ?_
  intro v zs hat hoi hzl hback
  have hz : zs = g key := by
    rw [h3 key] at hat
    by_cases hg0 : g key = []
    · rw [if_pos hg0] at hat
      rw [hg0]
      rcases hoi.datum (H := Unit) with ⟨e, e0⟩ | e
      · exact e0
      · rw [e] at hat
        exact absurd (congrArg isNilD hat) (by simp [isNilD])
    · rw [if_neg hg0] at hat
      rcases hoi.datum (H := Unit) with ⟨e, e0⟩ | e
      · rw [e] at hat
        exact absurd (congrArg isNilD hat) (by simp [isNilD])
      · rw [e] at hat
        exact (lits_inj (DataW.slice.inj hat).1).symm
  subst hz
  refine hK v ⟨_, by simpa [Kd.int, Kd.scal] using hoi.1, Kd.Cs.scal_iff.2 ⟨rfl, fun _ _ => trivial⟩, fun _ hb => hb.elim⟩ hzl ?_
  intro w1 v' i hgr ho hi hloc
  obtain ⟨cs, ho1, ho2, _⟩ := ho
  obtain ⟨rfl, _⟩ := Kd.Cs.scal_iff.1 ho2
  have ho3 : w1.ownsInts base 3 .i64 v' (g key ++ [i]) := by
    refine ⟨by simpa [Kd.int, Kd.scal] using ho1, fun z hz => ?_⟩
    rcases List.mem_append.1 hz with hz | hz
    · exact hoi.2 z hz
    · simp at hz
      subst hz
      exact WalkArith.wf_i64 (by omega)
  obtain ⟨w2, r1, r2, r3⟩ := hback w1 v' _ hgr ho3 (by rw [List.length_append]; simpa using hzl) hloc
  rw [ho3.datum_pos (by simp)] at r2
  refine ⟨w2, r1, ⟨_, r2, h2.put _ _, fun q => ?_⟩, r3⟩
  by_cases hq : q = key
  · subst hq
    rw [atKey_put_same (k := .string q.data.toList) h2 trivial]
    simp
  · rw [atKey_put_other (fun e => hq (WideShapes.bytes_inj (by injection e)))]
    simp only [hq, if_false]
    exact h3 q
/-- m[key] = v. -/
theorem map_store (w w2 : World) (hg : o.guard = none) (m x v : Operand) (t : TypeId) (hop : o.op = Op.mapUpdate t m x v) (mv kv vv : Value) (hm : a.eval m = mv) (hx : a.eval x = kv) (hv : a.eval v = vv)
    (hr : (Instr.mapUpdate t mv kv vv).run Try.prog w = .ok () w2) (hK : wpList Try.prog ops Q rest (a.put o.dst undef) w2) : wpList Try.prog ops Q (o :: rest) a w := by
  refine wpList_plain hg fun K' hK' => ?_
  unfold Oper.wp
  simp [execOp, hop, hm, hx, hv, hr, Result.andThen]
  exact hK' _ _ hK
end
end Go.Proofs.Ythigebbihclbiaa
