/- task.before: the plain side and the invariant. -/
import Derived.Test.YthigebbihclbiaaMat
namespace Go.Proofs.Ythigebbihclbiaa
open Go.RowKit

def rowOf (m : List (List Bool)) (i : Nat) : List Bool := m.getD i []
def orStep (i k : Nat) (m : List (List Bool)) (j : Nat) : List (List Bool) := m.set i ((rowOf m i).set j ((rowOf m i).getD j false || (rowOf m k).getD j false))
def depStep (i : Nat) (m : List (List Bool)) (k : Int) : List (List Bool) :=
  (List.range (rowOf (m.set i ((rowOf m i).set k.toNat true)) k.toNat).length).foldl (orStep i k.toNat) (m.set i ((rowOf m i).set k.toNat true))
def befStep (ts : List Task) (m : List (List Bool)) (i : Int) : List (List Bool) := (afterOf ts i).foldl (depStep i.toNat) (m.set i.toNat (List.replicate ts.length false))
/-- Which tasks come before which. -/
def beforeOf (ts : List Task) : List (List Bool) := (orderOf ts).foldl (befStep ts) (List.replicate ts.length [])

/-- What holds in the loops of before. -/
structure BefInv (w wr : World) (a b : Value) (n : Nat) (lv : Value) (l : List Int) (hs : List Hdr) (m : List (List Bool)) : Prop where
  box : Boxed w wr a b
  mat : Mat wr (w.heap.size + 1) (w.heap.size + 1) n hs m
  row : Kd.int.Own 3 wr (w.heap.size + 2) Kd.NoB lv l
  lone : ∀ (i : Nat) (h : Hdr), hs[i]? = some h → lv.ownBlock = none ∨ lv.ownBlock ≠ h.enc.ownBlock
  wid : ∀ (i : Nat) (h : Hdr), hs[i]? = some h → h.2.1 ≤ n
theorem BefInv.drawn {w wr wx : World} {a b lv : Value} {n : Nat} {l : List Int} {hs : List Hdr} {m : List (List Bool)} (h : BefInv w wr a b n lv l hs m) (hd : Drawn wr wx) : BefInv w wx a b n lv l hs m :=
  ⟨h.box.later (hd.below _), h.mat.below (hd.below _), hd.own h.row, h.lone, h.wid⟩
theorem BefInv.set {w wr : World} {a b lv : Value} {n r c q : Nat} {l : List Int} {hs : List Hdr} {m : List (List Bool)} (h : BefInv w wr a b n lv l hs m) (i j : Nat) (x : List Bool) (y : Bool) (h1 : hs[i]? = some (some ⟨r, 0, none⟩, q, c)) (h2 : m[i]? = some x) :
    BefInv w (wr.setCell ⟨r, j, none⟩ (.bool y)) a b n lv l hs (m.set i (x.set j y)) := by
  obtain ⟨k1, k2⟩ := h.mat.set i j x y q h1 h2
  have hr := ((h.mat.inner i _ x h1 h2).lt r rfl).1
  have far : some w.heap.size ≠ some r := fun e => by have := Option.some.inj e; omega
  refine ⟨⟨k2.cell h.box.c0 far, k2.cell h.box.c1 far, h.box.below.setCell (by show _ ≤ r; omega) _, by simpa [World.setCell] using h.box.size⟩, k1, h.row.grown k2 ?_ (fun _ hb => hb.elim), h.lone, h.wid⟩
  exact h.lone i _ h1
theorem BefInv.made {w wr : World} {a b lv : Value} {n : Nat} {l : List Int} {hs : List Hdr} {m : List (List Bool)} (h : BefInv w wr a b n lv l hs m) (i : Nat) (hn : n ≤ 9223372036854775807) (hi : i < n) :
    BefInv w ((wr.alloc (.cells (madeCells #[.bool false] n) 4)).setCell ⟨w.heap.size + 1, i, none⟩ (.slice (some ⟨wr.heap.size, 0, none⟩) n n)) a b n lv l (hs.set i (some ⟨wr.heap.size, 0, none⟩, n, n)) (m.set i (List.replicate n false)) := by
  have hz := h.box.size
  have k1 := h.mat.row i (by omega) hn hi
  have hb1 := below_one wr (.cells (madeCells #[.bool false] n) 4)
  have B1 := h.box.later hb1
  have gs : (wr.alloc (.cells (madeCells #[.bool false] n) 4)).grownBy ((wr.alloc (.cells (madeCells #[.bool false] n) 4)).setCell ⟨w.heap.size + 1, i, none⟩ (.slice (some ⟨wr.heap.size, 0, none⟩) n n)) (some (w.heap.size + 1)) :=
    ⟨rfl, rfl, rfl, by simp [World.setCell], fun k _ hk => Below.heap_setCell _ _ _ _ (fun e => hk (by rw [e]))⟩
  have far : some w.heap.size ≠ some (w.heap.size + 1) := fun e => by have := Option.some.inj e; omega
  refine ⟨⟨gs.cell B1.c0 far, gs.cell B1.c1 far, B1.below.setCell (by show _ ≤ w.heap.size + 1; omega) _, by simpa [World.setCell] using B1.size⟩, k1, (h.row.below hb1).grown gs ?_ (fun _ hb => hb.elim), ?_, ?_⟩
  · exact .inr (fun e => by have := (h.row.lt _ e).1; omega)
  · intro j a ha
    by_cases hj : j = i
    · subst hj
      rw [List.getElem?_set_self (by rw [h.mat.hl]; exact hi)] at ha
      cases ha
      refine .inr (fun e => ?_)
      have : wr.heap.size < wr.heap.size := (h.row.lt wr.heap.size e).2
      omega
    · rw [List.getElem?_set_ne (fun e => hj e.symm)] at ha
      exact h.lone j a ha
  · intro j a ha
    by_cases hj : j = i
    · subst hj
      rw [List.getElem?_set_self (by rw [h.mat.hl]; exact hi)] at ha
      cases ha
      exact Nat.le_refl _
    · rw [List.getElem?_set_ne (fun e => hj e.symm)] at ha
      exact h.wid j a ha
end Go.Proofs.Ythigebbihclbiaa
