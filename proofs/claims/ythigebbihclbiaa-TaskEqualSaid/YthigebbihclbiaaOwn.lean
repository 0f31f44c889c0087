/- Rows of the call's own that hold scalars: read, written, made. -/
import Derived.Test.YthigebbihclbiaaBase
import Derived.Deep.OwnRows
namespace Go.Proofs.Ythigebbihclbiaa
open Go.RowKit
namespace Kd
variable {α : Type}
/-- No block at all: what scalars lead to. -/
def NoB : Nat → Prop := fun _ => False
section
variable {enc : α → Value} {P : α → Prop} {h1 : ∀ x, (enc x).oneCell' = true} {e : TypeId} {w : World} {base : Nat} {F : Nat → Prop} {g n cap : Nat} {xs : List α}
theorem Cs.scal_iff {cs : List Value} : (scal enc P h1).Cs w F xs cs ↔ cs = xs.map enc ∧ ∀ x ∈ xs, P x := by
  constructor
  · rintro ⟨hl, h⟩
    have hl' : cs.length = xs.length := by simpa [scal] using hl
    refine ⟨List.ext_getElem (by simp [hl']) fun i hi hj => ?_, fun x hx => ?_⟩
    · have := (h i (by omega)).1
      rw [List.getElem_map]
      simp only [scal, Nat.mul_one] at this
      rw [List.take_one, List.head?_drop, List.getElem?_eq_getElem hi] at this
      simpa using this
    · obtain ⟨i, hi, rfl⟩ := List.getElem_of_mem hx
      exact (h i hi).2
  · rintro ⟨rfl, h⟩
    refine ⟨by simp [scal], fun i hi => ⟨?_, h _ (List.getElem_mem _)⟩⟩
    simp only [scal, Nat.mul_one]
    rw [List.take_one, List.head?_drop]
    simp [hi]
theorem Own.cell (h : (scal enc P h1).Own e w base F (.slice (some ⟨g, 0, none⟩) n cap) xs) (i : Nat) (hi : i < xs.length) : w.cell? ⟨g, i, none⟩ = some (enc xs[i]) ∧ w.frozen? ⟨g, i, none⟩ = false ∧ P xs[i] := by
  obtain ⟨cs, h2, h3, _⟩ := h
  obtain ⟨rfl, hP⟩ := Cs.scal_iff.1 h3
  have hn : n = xs.length := by
    rcases h2.2 with ⟨he, _⟩ | ⟨_, _, _, he, _⟩
    · cases he
    · exact (Value.slice.inj he).2.1
  subst hn
  refine ⟨?_, h2.frozenAt i, hP _ (List.getElem_mem _)⟩
  rw [h2.cellAt i (by simpa [scal] using hi)]
  simp [hi]
theorem Own.set (h : (scal enc P h1).Own e w base F (.slice (some ⟨g, 0, none⟩) n cap) xs) (i : Nat) (x : α) (hx : P x) :
    (scal enc P h1).Own e (w.setCell ⟨g, i, none⟩ (enc x)) base F (.slice (some ⟨g, 0, none⟩) n cap) (xs.set i x) ∧ w.grownBy (w.setCell ⟨g, i, none⟩ (enc x)) (some g) := by
  obtain ⟨cs, h2, h3, h4⟩ := h
  obtain ⟨rfl, hP⟩ := Cs.scal_iff.1 h3
  have hn : n = xs.length := by
    rcases h2.2 with ⟨he, _⟩ | ⟨_, _, _, he, _⟩
    · cases he
    · exact (Value.slice.inj he).2.1
  subst hn
  obtain ⟨k1, k2⟩ := h2.stored i (enc x)
  refine ⟨⟨(xs.set i x).map enc, ?_, Cs.scal_iff.2 ⟨rfl, fun y hy => ?_⟩, h4⟩, k2⟩
  · rw [List.length_set, List.map_set]; exact k1
  · rcases List.mem_or_eq_of_mem_set hy with hy | rfl
    · exact hP y hy
    · exact hx
theorem Own.made (W : World) (base : Nat) (e : TypeId) (z : α) (m : Nat) (hz : P z) (hb : base ≤ W.heap.size) (hm : m ≤ 9223372036854775807) :
    (scal enc P h1).Own e (W.alloc (.cells (madeCells #[enc z] m) e)) base NoB (.slice (some ⟨W.heap.size, 0, none⟩) m m) (List.replicate m z) := by
  have h := World.ownsRow_lit (base := base) (e := e) (size := 1) W (madeCells #[enc z] m) m hb (by simpa [maxLen] using hm) (by simp [size_madeCells])
  have hl : (madeCells #[enc z] m).toList = (List.replicate m z).map enc := by
    apply List.ext_getElem
    · simp [madeCells]
    · intro i h1 h2
      simp [madeCells, Nat.mod_one]
  rw [hl] at h
  exact ⟨_, by simpa [scal] using h, Cs.scal_iff.2 ⟨rfl, fun x hx => by rw [List.eq_of_mem_replicate hx]; exact hz⟩, fun b hb => hb.elim⟩
end
/-- make([]T, n) of a one-celled T, laid ahead of the walk. -/
theorem run_made {Pg : Program} (t e : TypeId) (z : Value) (bytes : Nat) (ht : Pg.underlying t = some (.slice e)) (hinfo : (Pg.info? e).map (fun i => (i.zero, i.size, i.bytes)) = some (some z, 1, bytes)) (hz : z.cells = #[z]) (hb0 : 0 < bytes)
    (m : Nat) (hn : m * bytes ≤ 281474976710656) :
    ∀ W : World, (Instr.makeSlice t (.int .i64 (m : Int)) (.int .i64 (m : Int))).run Pg W = .ok (.slice (some ⟨W.heap.size, 0, none⟩) m m) (W.alloc (.cells (madeCells #[z] m) e)) := by
  intro W
  have hm : m ≤ 281474976710656 := Nat.le_trans (Nat.le_mul_of_pos_right _ hb0) hn
  exact run_make_row' t e z bytes ht hinfo hz .i64 .i64 m (by rw [Nat.mul_comm]; exact hn) (by omega) W
/-- The same, the box's number given apart. -/
theorem app_at {P : Program} {ops : Array Oper} {rest : List Oper} {o : Oper} {a : Act} {Q : Exit → Act → World → Prop} {W : World} (d : Kd α) (base : Nat) (F : Nat → Prop)
    (hgd : o.guard = none) (s x : Operand) (t e : TypeId) (z : Value) (bytes : Nat)
    (ho : o.op = .call { callee := .builtin .append, args := #[s, x], argTypes := #[t, t] })
    (ht : P.underlying t = some (.slice e)) (hinfo : (P.info? e).map (fun i => (i.zero, i.size, i.bytes)) = some (some z, d.sz, bytes)) (hz : z.cells.size = d.sz) (hs0 : 0 < d.sz) (hb0 : 0 < bytes)
    (v : Value) (xs : List α) (y : α) (cs : Array Value) (hs : a.eval s = v) (H : Nat) (hH : W.heap.size = H) (hx : a.eval x = .slice (some ⟨H, 0, none⟩) 1 1) (hy : d.K W F y cs.toList)
    (HO : d.Own e W base F v xs) (hbase : base ≤ W.heap.size) (hF : ∀ b, F b → b < W.heap.size) (hl : (xs.length + 1) * bytes ≤ 140737488355328)
    (h : ∀ v1 w1, d.Own e w1 base F v1 (xs ++ [y]) → W.grownBy w1 v.ownBlock → (v1.ownBlock = v.ownBlock ∨ ∃ b, v1.ownBlock = some b ∧ W.heap.size ≤ b) → wpList P ops Q rest (a.put o.dst v1) w1) :
    wpList P ops Q (o :: rest) a (W.alloc (.cells cs e)) := by
  subst hH
  exact app d base F hgd s x t e z bytes ho ht hinfo hz hs0 hb0 v xs y cs hs hx hy HO hbase hF hl h
end Kd
end Go.Proofs.Ythigebbihclbiaa
