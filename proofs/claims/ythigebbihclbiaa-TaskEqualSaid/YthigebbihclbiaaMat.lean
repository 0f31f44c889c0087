/- A matrix of bools in rows of the call's own. -/
import Derived.Test.YthigebbihclbiaaCritPub
namespace Go.Proofs.Ythigebbihclbiaa
open Go.RowKit

/-- A slice's header. -/
abbrev Hdr := Option Addr × Nat × Nat
def Hdr.enc (h : Hdr) : Value := .slice h.1 h.2.1 h.2.2
def Kd.hdr : Kd Hdr := Kd.scal Hdr.enc (fun _ => True) (fun _ => rfl)

/-- The row at block g holds the headers hs; each is nil or a row of the call's own that holds m's row; no two of them, and none with g, share. -/
structure Mat (wr : World) (base g n : Nat) (hs : List Hdr) (m : List (List Bool)) : Prop where
  outer : Kd.hdr.Own 80 wr base Kd.NoB (.slice (some ⟨g, 0, none⟩) n n) hs
  hl : hs.length = n
  ml : m.length = n
  inner : ∀ (i : Nat) (h : Hdr) (x : List Bool), hs[i]? = some h → m[i]? = some x → Kd.bool.Own 4 wr base Kd.NoB h.enc x
  sep : ∀ (i j : Nat) (a b : Hdr), i ≠ j → hs[i]? = some a → hs[j]? = some b → a.enc.ownBlock = none ∨ a.enc.ownBlock ≠ b.enc.ownBlock
  apart : ∀ (i : Nat) (a : Hdr), hs[i]? = some a → a.enc.ownBlock ≠ some g
theorem Mat.below {wr wx : World} {base g n : Nat} {hs : List Hdr} {m : List (List Bool)} (h : Mat wr base g n hs m) (hb : Below wr.heap.size wr wx) : Mat wx base g n hs m :=
  ⟨h.outer.below hb, h.hl, h.ml, fun i a x h1 h2 => (h.inner i a x h1 h2).below hb, h.sep, h.apart⟩
theorem rep_get {α : Type} {n i : Nat} {x a : α} (h : (List.replicate n x)[i]? = some a) : a = x := List.eq_of_mem_replicate (List.mem_of_getElem? h)
theorem Mat.start (W : World) (base n : Nat) (hb : base ≤ W.heap.size) (hn : n ≤ 9223372036854775807) : Mat (W.alloc (.cells (madeCells #[.slice none 0 0] n) 80)) base W.heap.size n (List.replicate n (none, 0, 0)) (List.replicate n []) := by
  refine ⟨Kd.Own.made (enc := Hdr.enc) (P := fun _ => True) (h1 := fun _ => rfl) W base 80 (none, 0, 0) n trivial hb hn, List.length_replicate, List.length_replicate, ?_, ?_, ?_⟩
  · intro i h x h1 h2
    obtain rfl := rep_get h1
    obtain rfl := rep_get h2
    exact Kd.Own.nil _ _ _ _ _
  · intro i j a b _ h1 _
    obtain rfl := rep_get h1
    exact .inl rfl
  · intro i a h1
    obtain rfl := rep_get h1
    simp [Hdr.enc, Value.ownBlock]
/-- A cell of a row is set. -/
theorem Mat.set {wr : World} {base g n r c : Nat} {hs : List Hdr} {m : List (List Bool)} (h : Mat wr base g n hs m) (i j : Nat) (x : List Bool) (b : Bool) (q : Nat) (h1 : hs[i]? = some (some ⟨r, 0, none⟩, q, c)) (h2 : m[i]? = some x) :
    Mat (wr.setCell ⟨r, j, none⟩ (.bool b)) base g n hs (m.set i (x.set j b)) ∧ wr.grownBy (wr.setCell ⟨r, j, none⟩ (.bool b)) (some r) := by
  have ho := h.inner i _ x h1 h2
  obtain ⟨k1, k2⟩ := Kd.Own.set (enc := Value.bool) (P := fun _ => True) (h1 := fun _ => rfl) ho j b trivial
  refine ⟨⟨h.outer.grown k2 (.inr fun e => ?_) (fun _ hb => hb.elim), h.hl, by rw [List.length_set]; exact h.ml, ?_, h.sep, h.apart⟩, k2⟩
  · have := h.apart i _ h1
    simp only [Value.ownBlock, Option.some.injEq] at e
    exact this (by simp [Hdr.enc, Value.ownBlock, e])
  · intro i' a y h3 h4
    by_cases hi : i' = i
    · subst hi
      rw [h1] at h3
      cases h3
      have hlt : i' < m.length := (List.getElem?_eq_some_iff.1 h2).1
      rw [List.getElem?_set_self hlt] at h4
      cases h4
      exact k1
    · rw [List.getElem?_set_ne (fun e => hi e.symm)] at h4
      refine (h.inner i' a y h3 h4).grown k2 ?_ (fun _ hb => hb.elim)
      exact h.sep i' i a _ hi h3 h1
/-- A row is made. -/
theorem Mat.row {wr : World} {base g n : Nat} {hs : List Hdr} {m : List (List Bool)} (h : Mat wr base g n hs m) (i : Nat) (hbase : base ≤ wr.heap.size) (hn : n ≤ 9223372036854775807) (hi : i < n) :
    Mat ((wr.alloc (.cells (madeCells #[.bool false] n) 4)).setCell ⟨g, i, none⟩ (.slice (some ⟨wr.heap.size, 0, none⟩) n n)) base g n (hs.set i (some ⟨wr.heap.size, 0, none⟩, n, n)) (m.set i (List.replicate n false)) := by
  have hm := Kd.Own.made (enc := Value.bool) (P := fun _ => True) (h1 := fun _ => rfl) wr base 4 false n trivial hbase hn
  have hb1 := below_one wr (.cells (madeCells #[.bool false] n) 4)
  have h' := h.below hb1
  obtain ⟨k1, k2⟩ := Kd.Own.set (enc := Hdr.enc) (P := fun _ => True) (h1 := fun _ => rfl) h'.outer i (some ⟨wr.heap.size, 0, none⟩, n, n) trivial
  have hg : g < wr.heap.size := (h.outer.lt g rfl).2
  have old : ∀ (j : Nat) (a : Hdr), hs[j]? = some a → ∀ b, a.enc.ownBlock = some b → b < wr.heap.size := fun j a ha b hb => by
    have hj : j < m.length := by rw [h.ml, ← h.hl]; exact (List.getElem?_eq_some_iff.1 ha).1
    exact ((h.inner j a _ ha (List.getElem?_eq_getElem hj)).lt b hb).2
  have sp : ∀ (j : Nat) (a : Hdr), hs[j]? = some a → a.enc.ownBlock ≠ some wr.heap.size := fun j a ha e => Nat.lt_irrefl _ (old j a ha _ e)
  refine ⟨k1, by rw [List.length_set]; exact h.hl, by rw [List.length_set]; exact h.ml, ?_, ?_, ?_⟩
  · intro j a x h1 h2
    by_cases hj : j = i
    · subst hj
      rw [List.getElem?_set_self (by rw [h.hl]; exact hi)] at h1
      rw [List.getElem?_set_self (by rw [h.ml]; exact hi)] at h2
      cases h1; cases h2
      exact hm.grown k2 (.inr (by simp only [Value.ownBlock, ne_eq, Option.some.injEq]; omega)) (fun _ hb => hb.elim)
    · rw [List.getElem?_set_ne (fun e => hj e.symm)] at h1 h2
      refine (h'.inner j a x h1 h2).grown k2 ?_ (fun _ hb => hb.elim)
      exact .inr (h.apart j a h1)
  · intro j k a b hjk h1 h2
    by_cases hj : j = i
    · subst hj
      rw [List.getElem?_set_self (by rw [h.hl]; exact hi)] at h1
      rw [List.getElem?_set_ne hjk] at h2
      cases h1
      exact .inr (fun e => sp k b h2 e.symm)
    · rw [List.getElem?_set_ne (fun e => hj e.symm)] at h1
      by_cases hk : k = i
      · subst hk
        rw [List.getElem?_set_self (by rw [h.hl]; exact hi)] at h2
        cases h2
        exact .inr (sp j a h1)
      · rw [List.getElem?_set_ne (fun e => hk e.symm)] at h2
        exact h.sep j k a b hjk h1 h2
  · intro j a h1
    by_cases hj : j = i
    · subst hj
      rw [List.getElem?_set_self (by rw [h.hl]; exact hi)] at h1
      cases h1
      simp only [Hdr.enc, Value.ownBlock, ne_eq, Option.some.injEq]; omega
    · rw [List.getElem?_set_ne (fun e => hj e.symm)] at h1
      exact h.apart j a h1
end Go.Proofs.Ythigebbihclbiaa
