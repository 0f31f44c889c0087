/- A row that grows, kept in a cell of a box. -/
import Derived.Test.YthigebbihclbiaaRed
import Derived.Laws.EntriesVeiled
namespace Go.Proofs.Ythigebbihclbiaa
open Go.RowKit

/-- From W0 on: cell o of box T holds a row of the call's own, with xs; the box's cell o' holds u; of what W0 held only box T has turned. -/
structure BoxInv {α : Type} (d : Kd α) (e : TypeId) (W0 wr : World) (T o o' : Nat) (v u : Value) (xs : List α) (F : Nat → Prop) : Prop where
  g : W0.grownBy wr (some T)
  hT : T < W0.heap.size
  c : wr.cell? ⟨T, o, none⟩ = some v
  f : wr.frozen? ⟨T, o, none⟩ = false
  c' : wr.cell? ⟨T, o', none⟩ = some u
  f' : wr.frozen? ⟨T, o', none⟩ = false
  own : d.Own e wr W0.heap.size F v xs
  flo : ∀ b, F b → W0.heap.size ≤ b ∧ b < wr.heap.size
theorem BoxInv.later {α : Type} {d : Kd α} {e : TypeId} {W0 wr wx : World} {T o o' : Nat} {v u : Value} {xs : List α} {F : Nat → Prop} (h : BoxInv d e W0 wr T o o' v u xs F) (hb : Below wr.heap.size wr wx) : BoxInv d e W0 wx T o o' v u xs F := by
  have ht : T < wr.heap.size := Nat.lt_of_lt_of_le h.hT h.g.size
  exact ⟨h.g.trans (Kd.grownBy_of_below hb _), h.hT, (hb.cell (show T < _ from ht)).trans h.c, (hb.frozen (show T < _ from ht)).trans h.f, (hb.cell (show T < _ from ht)).trans h.c', (hb.frozen (show T < _ from ht)).trans h.f', h.own.below hb, fun b hF => ⟨(h.flo b hF).1, Nat.lt_of_lt_of_le (h.flo b hF).2 hb.size⟩⟩
theorem BoxInv.below {α : Type} {d : Kd α} {e : TypeId} {W0 wr : World} {T o o' : Nat} {v u : Value} {xs : List α} {F : Nat → Prop} (h : BoxInv d e W0 wr T o o' v u xs F) : Below T W0 wr :=
  (Below.refl T W0).grown h.g (Nat.le_of_lt h.hT) (fun j hj => by rw [Option.some.inj hj]; exact Nat.le_refl _)
theorem Kd.Own.more {α : Type} {d : Kd α} {e : TypeId} {w : World} {base : Nat} {F F' : Nat → Prop} {v : Value} {xs : List α} (h : d.Own e w base F v xs) (hF : ∀ b, F b → F' b) (hv : ∀ b, F' b → v.ownBlock ≠ some b) : d.Own e w base F' v xs := by
  obtain ⟨cs, h1, h2, _⟩ := h
  exact ⟨cs, h1, h2.mono fun b hb _ => hF b hb, hv⟩
theorem BoxInv.appended {α : Type} {d : Kd α} {e : TypeId} {W0 wr w1 : World} {T o o' : Nat} {v u v1 : Value} {xs xs' : List α} {F F' : Nat → Prop} (h : BoxInv d e W0 wr T o o' v u xs F) (ne : o' ≠ o)
    (ho : d.Own e w1 W0.heap.size F' v1 xs') (hg : wr.grownBy w1 v.ownBlock) (hF' : ∀ b, F' b → W0.heap.size ≤ b ∧ b < wr.heap.size) (h1 : v1.oneCell' = true) :
    BoxInv d e W0 (w1.setCell ⟨T, o, none⟩ v1) T o o' v1 u xs' F' ∧ w1.cell? ⟨T, o, none⟩ = some v ∧ w1.frozen? ⟨T, o, none⟩ = false := by
  have ht : T < wr.heap.size := Nat.lt_of_lt_of_le h.hT h.g.size
  have far : some T ≠ v.ownBlock := fun x => by have := (h.own.lt T x.symm).1; have := h.hT; omega
  have c1 : w1.cell? ⟨T, o, none⟩ = some v := hg.cell h.c far
  have f1 : w1.frozen? ⟨T, o, none⟩ = false := (hg.frozen_far ⟨T, o, none⟩ (by show T < _; exact ht) far).trans h.f
  have gs : w1.grownBy (w1.setCell ⟨T, o, none⟩ v1) (some T) := ⟨rfl, rfl, rfl, by simp [World.setCell], fun k _ hk => Below.heap_setCell _ _ _ _ (fun x => hk (by rw [x]))⟩
  have g1 : W0.grownBy w1 (some T) := by
    refine ⟨hg.os.trans h.g.os, hg.tape.trans h.g.tape, hg.output.trans h.g.output, Nat.le_trans h.g.size hg.size, fun k hk hne => ?_⟩
    rw [hg.block k (Nat.lt_of_lt_of_le hk h.g.size) (fun x => by have := (h.own.lt k x.symm).1; omega)]
    exact h.g.block k hk hne
  refine ⟨⟨g1.trans gs, h.hT, ?_, ?_, ?_, ?_, ho.grown gs ?_ ?_, fun b hF => ⟨(hF' b hF).1, ?_⟩⟩, c1, f1⟩
  · rw [World.cell?_setCell_same w1 _ _ (by rw [c1])]
  · rw [World.frozen?_setCell]; exact f1
  · rw [World.cell?_setCell_other _ _ _ _ (by intro x; injection x with _ x _; exact ne x.symm)]
    exact hg.cell h.c' far
  · rw [World.frozen?_setCell]
    exact (hg.frozen_far ⟨T, o', none⟩ (by show T < _; exact ht) far).trans h.f'
  · cases hv : v1.ownBlock with
    | none => exact .inl rfl
    | some k => exact .inr (fun x => by have := (ho.lt k hv).1; have := Option.some.inj x; have := h.hT; omega)
  · intro b hF x
    have := (hF' b hF).1
    have := Option.some.inj x
    have := h.hT
    omega
  · have := (hF' b hF).2
    have := hg.size
    have : (w1.setCell ⟨T, o, none⟩ v1).heap.size = w1.heap.size := by simp [World.setCell]
    omega

/-- A shop and an error code. -/
def RetS (R : Shop) (c : Int) (w : World) (e : Ending) (w' : World) : Prop := ∃ v, e = .returned (.tuple #[v, .int .i64 c]) ∧ ShopAt w' (fun b => w.heap.size ≤ b) R v ∧ Below w.heap.size w w'
theorem results_ct {P : Program} {fn : Func} {p u : Tmp} {ty : TypeId} (h : fn.results = #[.cell p ty, .tmp u]) (tmps : Array Value) (w : World) (A : Addr) (v : Value) (hp : tmps.getD p undef = .pointer (some A)) (hl : (loadVar ty A).run P w = .ok v w) :
    (results fn tmps).run P w = .ok (.tuple #[v, tmps.getD u undef]) w := by
  have hp' : tmps[p]?.getD undef = .pointer (some A) := by simpa using hp
  simp [results, h, hp', asAddr, hl, Sem.run_bind, Result.andThen]
end Go.Proofs.Ythigebbihclbiaa
