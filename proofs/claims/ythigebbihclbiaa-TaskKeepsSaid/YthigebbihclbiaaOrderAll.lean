/- A matrix of bools in rows of the call's own. -/
import Derived.Test.YthigebbihclbiaaCritPub
namespace Go.Proofs.Ythigebbihclbiaa
open Go.RowKit

/-- A slice's header. -/
abbrev Hdr := Option Addr × Nat × Nat
def Hdr.enc (h : Hdr) : Value := .slice h.1 h.2.1 h.2.2
def Kd.hdr : Kd Hdr := Kd.scal Hdr.enc (fun _ => True) (fun _ => rfl)

/-- The row at block g holds the headers hs; each is nil or a row of the call's own that holds m's row; no two of them, and none with g, share. -/
structure Mat (wr : World) (base g n : Nat) (hs : List Hdr) (m : List (List Bool)) : Prop where
  outer : Kd.hdr.Own 80 wr base Kd.NoB (.slice (some ⟨g, 0, none⟩) n n) hs
  hl : hs.length = n
  ml : m.length = n
  inner : ∀ (i : Nat) (h : Hdr) (x : List Bool), hs[i]? = some h → m[i]? = some x → Kd.bool.Own 4 wr base Kd.NoB h.enc x
  sep : ∀ (i j : Nat) (a b : Hdr), i ≠ j → hs[i]? = some a → hs[j]? = some b → a.enc.ownBlock = none ∨ a.enc.ownBlock ≠ b.enc.ownBlock
  apart : ∀ (i : Nat) (a : Hdr), hs[i]? = some a → a.enc.ownBlock ≠ some g
theorem Mat.below {wr wx : World} {base g n : Nat} {hs : List Hdr} {m : List (List Bool)} (h : Mat wr base g n hs m) (hb : Below wr.heap.size wr wx) : Mat wx base g n hs m :=
  ⟨h.outer.below hb, h.hl, h.ml, fun i a x h1 h2 => (h.inner i a x h1 h2).below hb, h.sep, h.apart⟩
theorem rep_get {α : Type} {n i : Nat} {x a : α} (h : (List.replicate n x)[i]? = some a) : a = x := List.eq_of_mem_replicate (List.mem_of_getElem? h)
theorem Mat.start (W : World) (base n : Nat) (hb : base ≤ W.heap.size) (hn : n ≤ 9223372036854775807) : Mat (W.alloc (.cells (madeCells #[.slice none 0 0] n) 80)) base W.heap.size n (List.replicate n (none, 0, 0)) (List.replicate n []) := by
  refine ⟨Kd.Own.made (enc := Hdr.enc) (P := fun _ => True) (h1 := fun _ => rfl) W base 80 (none, 0, 0) n trivial hb hn, List.length_replicate, List.length_replicate, ?_, ?_, ?_⟩
  · intro i h x h1 h2
    obtain rfl := rep_get h1
    obtain rfl := rep_get h2
    exact Kd.Own.nil _ _ _ _ _
  · intro i j a b _ h1 _
    obtain rfl := rep_get h1
    exact .inl rfl
  · intro i a h1
    obtain rfl := rep_get h1
    simp [Hdr.enc, Value.ownBlock]
/-- A cell of a row is set. -/
theorem Mat.set {wr : World} {base g n r c : Nat} {hs : List Hdr} {m : List (List Bool)} (h : Mat wr base g n hs m) (i j : Nat) (x : List Bool) (b : Bool) (q : Nat) (h1 : hs[i]? = some (some ⟨r, 0, none⟩, q, c)) (h2 : m[i]? = some x) :
    Mat (wr.setCell ⟨r, j, none⟩ (.bool b)) base g n hs (m.set i (x.set j b)) ∧ wr.grownBy (wr.setCell ⟨r, j, none⟩ (.bool b)) (some r) := by
  have ho := h.inner i _ x h1 h2
  obtain ⟨k1, k2⟩ := Kd.Own.set (enc := Value.bool) (P := fun _ => True) (h1 := fun _ => rfl) ho j b trivial
  refine ⟨⟨h.outer.grown k2 (.inr fun e => ?_) (fun _ hb => hb.elim), h.hl, by rw [List.length_set]; exact h.ml, ?_, h.sep, h.apart⟩, k2⟩
  · have := h.apart i _ h1
    simp only [Value.ownBlock, Option.some.injEq] at e
    exact this (by simp [Hdr.enc, Value.ownBlock, e])
  · intro i' a y h3 h4
    by_cases hi : i' = i
    · subst hi
      rw [h1] at h3
      cases h3
      have hlt : i' < m.length := (List.getElem?_eq_some_iff.1 h2).1
      rw [List.getElem?_set_self hlt] at h4
      cases h4
      exact k1
    · rw [List.getElem?_set_ne (fun e => hi e.symm)] at h4
      refine (h.inner i' a y h3 h4).grown k2 ?_ (fun _ hb => hb.elim)
      exact h.sep i' i a _ hi h3 h1
/-- A row is made. -/
theorem Mat.row {wr : World} {base g n : Nat} {hs : List Hdr} {m : List (List Bool)} (h : Mat wr base g n hs m) (i : Nat) (hbase : base ≤ wr.heap.size) (hn : n ≤ 9223372036854775807) (hi : i < n) :
    Mat ((wr.alloc (.cells (madeCells #[.bool false] n) 4)).setCell ⟨g, i, none⟩ (.slice (some ⟨wr.heap.size, 0, none⟩) n n)) base g n (hs.set i (some ⟨wr.heap.size, 0, none⟩, n, n)) (m.set i (List.replicate n false)) := by
  have hm := Kd.Own.made (enc := Value.bool) (P := fun _ => True) (h1 := fun _ => rfl) wr base 4 false n trivial hbase hn
  have hb1 := below_one wr (.cells (madeCells #[.bool false] n) 4)
  have h' := h.below hb1
  obtain ⟨k1, k2⟩ := Kd.Own.set (enc := Hdr.enc) (P := fun _ => True) (h1 := fun _ => rfl) h'.outer i (some ⟨wr.heap.size, 0, none⟩, n, n) trivial
  have hg : g < wr.heap.size := (h.outer.lt g rfl).2
  have old : ∀ (j : Nat) (a : Hdr), hs[j]? = some a → ∀ b, a.enc.ownBlock = some b → b < wr.heap.size := fun j a ha b hb => by
    have hj : j < m.length := by rw [h.ml, ← h.hl]; exact (List.getElem?_eq_some_iff.1 ha).1
    exact ((h.inner j a _ ha (List.getElem?_eq_getElem hj)).lt b hb).2
  have sp : ∀ (j : Nat) (a : Hdr), hs[j]? = some a → a.enc.ownBlock ≠ some wr.heap.size := fun j a ha e => Nat.lt_irrefl _ (old j a ha _ e)
  refine ⟨k1, by rw [List.length_set]; exact h.hl, by rw [List.length_set]; exact h.ml, ?_, ?_, ?_⟩
  · intro j a x h1 h2
    by_cases hj : j = i
    · subst hj
      rw [List.getElem?_set_self (by rw [h.hl]; exact hi)] at h1
      rw [List.getElem?_set_self (by rw [h.ml]; exact hi)] at h2
      cases h1; cases h2
      exact hm.grown k2 (.inr (by simp only [Value.ownBlock, ne_eq, Option.some.injEq]; omega)) (fun _ hb => hb.elim)
    · rw [List.getElem?_set_ne (fun e => hj e.symm)] at h1 h2
      refine (h'.inner j a x h1 h2).grown k2 ?_ (fun _ hb => hb.elim)
      exact .inr (h.apart j a h1)
  · intro j k a b hjk h1 h2
    by_cases hj : j = i
    · subst hj
      rw [List.getElem?_set_self (by rw [h.hl]; exact hi)] at h1
      rw [List.getElem?_set_ne hjk] at h2
      cases h1
      exact .inr (fun e => sp k b h2 e.symm)
    · rw [List.getElem?_set_ne (fun e => hj e.symm)] at h1
      by_cases hk : k = i
      · subst hk
        rw [List.getElem?_set_self (by rw [h.hl]; exact hi)] at h2
        cases h2
        exact .inr (sp j a h1)
      · rw [List.getElem?_set_ne (fun e => hk e.symm)] at h2
        exact h.sep j k a b hjk h1 h2
  · intro j a h1
    by_cases hj : j = i
    · subst hj
      rw [List.getElem?_set_self (by rw [h.hl]; exact hi)] at h1
      cases h1
      simp only [Hdr.enc, Value.ownBlock, ne_eq, Option.some.injEq]; omega
    · rw [List.getElem?_set_ne (fun e => hj e.symm)] at h1
      exact h.apart j a h1
end Go.Proofs.Ythigebbihclbiaa

/- task.before: the plain side and the invariant. -/
namespace Go.Proofs.Ythigebbihclbiaa
open Go.RowKit

def rowOf (m : List (List Bool)) (i : Nat) : List Bool := m.getD i []
def orStep (i k : Nat) (m : List (List Bool)) (j : Nat) : List (List Bool) := m.set i ((rowOf m i).set j ((rowOf m i).getD j false || (rowOf m k).getD j false))
def depStep (i : Nat) (m : List (List Bool)) (k : Int) : List (List Bool) :=
  (List.range (rowOf (m.set i ((rowOf m i).set k.toNat true)) k.toNat).length).foldl (orStep i k.toNat) (m.set i ((rowOf m i).set k.toNat true))
def befStep (ts : List Task) (m : List (List Bool)) (i : Int) : List (List Bool) := (afterOf ts i).foldl (depStep i.toNat) (m.set i.toNat (List.replicate ts.length false))
/-- Which tasks come before which. -/
def beforeOf (ts : List Task) : List (List Bool) := (orderOf ts).foldl (befStep ts) (List.replicate ts.length [])

/-- What holds in the loops of before. -/
structure BefInv (w wr : World) (a b : Value) (n : Nat) (lv : Value) (l : List Int) (hs : List Hdr) (m : List (List Bool)) : Prop where
  box : Boxed w wr a b
  mat : Mat wr (w.heap.size + 1) (w.heap.size + 1) n hs m
  row : Kd.int.Own 3 wr (w.heap.size + 2) Kd.NoB lv l
  lone : ∀ (i : Nat) (h : Hdr), hs[i]? = some h → lv.ownBlock = none ∨ lv.ownBlock ≠ h.enc.ownBlock
  wid : ∀ (i : Nat) (h : Hdr), hs[i]? = some h → h.2.1 ≤ n
theorem BefInv.drawn {w wr wx : World} {a b lv : Value} {n : Nat} {l : List Int} {hs : List Hdr} {m : List (List Bool)} (h : BefInv w wr a b n lv l hs m) (hd : Drawn wr wx) : BefInv w wx a b n lv l hs m :=
  ⟨h.box.later (hd.below _), h.mat.below (hd.below _), hd.own h.row, h.lone, h.wid⟩
theorem BefInv.set {w wr : World} {a b lv : Value} {n r c q : Nat} {l : List Int} {hs : List Hdr} {m : List (List Bool)} (h : BefInv w wr a b n lv l hs m) (i j : Nat) (x : List Bool) (y : Bool) (h1 : hs[i]? = some (some ⟨r, 0, none⟩, q, c)) (h2 : m[i]? = some x) :
    BefInv w (wr.setCell ⟨r, j, none⟩ (.bool y)) a b n lv l hs (m.set i (x.set j y)) := by
  obtain ⟨k1, k2⟩ := h.mat.set i j x y q h1 h2
  have hr := ((h.mat.inner i _ x h1 h2).lt r rfl).1
  have far : some w.heap.size ≠ some r := fun e => by have := Option.some.inj e; omega
  refine ⟨⟨k2.cell h.box.c0 far, k2.cell h.box.c1 far, h.box.below.setCell (by show _ ≤ r; omega) _, by simpa [World.setCell] using h.box.size⟩, k1, h.row.grown k2 ?_ (fun _ hb => hb.elim), h.lone, h.wid⟩
  exact h.lone i _ h1
theorem BefInv.made {w wr : World} {a b lv : Value} {n : Nat} {l : List Int} {hs : List Hdr} {m : List (List Bool)} (h : BefInv w wr a b n lv l hs m) (i : Nat) (hn : n ≤ 9223372036854775807) (hi : i < n) :
    BefInv w ((wr.alloc (.cells (madeCells #[.bool false] n) 4)).setCell ⟨w.heap.size + 1, i, none⟩ (.slice (some ⟨wr.heap.size, 0, none⟩) n n)) a b n lv l (hs.set i (some ⟨wr.heap.size, 0, none⟩, n, n)) (m.set i (List.replicate n false)) := by
  have hz := h.box.size
  have k1 := h.mat.row i (by omega) hn hi
  have hb1 := below_one wr (.cells (madeCells #[.bool false] n) 4)
  have B1 := h.box.later hb1
  have gs : (wr.alloc (.cells (madeCells #[.bool false] n) 4)).grownBy ((wr.alloc (.cells (madeCells #[.bool false] n) 4)).setCell ⟨w.heap.size + 1, i, none⟩ (.slice (some ⟨wr.heap.size, 0, none⟩) n n)) (some (w.heap.size + 1)) :=
    ⟨rfl, rfl, rfl, by simp [World.setCell], fun k _ hk => Below.heap_setCell _ _ _ _ (fun e => hk (by rw [e]))⟩
  have far : some w.heap.size ≠ some (w.heap.size + 1) := fun e => by have := Option.some.inj e; omega
  refine ⟨⟨gs.cell B1.c0 far, gs.cell B1.c1 far, B1.below.setCell (by show _ ≤ w.heap.size + 1; omega) _, by simpa [World.setCell] using B1.size⟩, k1, (h.row.below hb1).grown gs ?_ (fun _ hb => hb.elim), ?_, ?_⟩
  · exact .inr (fun e => by have := (h.row.lt _ e).1; omega)
  · intro j a ha
    by_cases hj : j = i
    · subst hj
      rw [List.getElem?_set_self (by rw [h.mat.hl]; exact hi)] at ha
      cases ha
      refine .inr (fun e => ?_)
      have : wr.heap.size < wr.heap.size := (h.row.lt wr.heap.size e).2
      omega
    · rw [List.getElem?_set_ne (fun e => hj e.symm)] at ha
      exact h.lone j a ha
  · intro j a ha
    by_cases hj : j = i
    · subst hj
      rw [List.getElem?_set_self (by rw [h.mat.hl]; exact hi)] at ha
      cases ha
      exact Nat.le_refl _
    · rw [List.getElem?_set_ne (fun e => hj e.symm)] at ha
      exact h.wid j a ha
end Go.Proofs.Ythigebbihclbiaa

/- Plain facts about the order and the matrix of before: each task is in a whole order, and then each row is made. -/
namespace Go.Proofs.Ythigebbihclbiaa
open Go.RowKit

structure OrdInv (ts : List Task) (done : List Bool) (out : List Int) : Prop where
  len : done.length = ts.length
  cnt : left done + out.length = ts.length
  iff : ∀ k, k < ts.length → (done.getD k false = true ↔ (k : Int) ∈ out)
theorem ready_lt {ts : List Task} {done : List Bool} {k : Nat} (h : ready ts done k = true) : k < ts.length ∧ done.getD k false = false := by
  unfold ready at h
  split at h
  · rename_i t ht
    simp only [Bool.and_eq_true, Bool.not_eq_true'] at h
    exact ⟨(List.getElem?_eq_some_iff.1 ht).1, h.1⟩
  · cases h
theorem OrdInv.start (ts : List Task) : OrdInv ts (List.replicate ts.length false) [] := by
  refine ⟨List.length_replicate, by simp [left, List.countP_replicate], fun k hk => ?_⟩
  simp [hk]
theorem OrdInv.step {ts : List Task} {done : List Bool} {out : List Int} (h : OrdInv ts done out) (hn : nextReady ts done ≠ ts.length) :
    OrdInv ts (done.set (nextReady ts done) true) (out ++ [(nextReady ts done : Int)]) := by
  obtain ⟨h1, h2⟩ := ready_lt (next_ready ts done hn)
  generalize nextReady ts done = k at *
  have hk : k < done.length := by rw [h.len]; exact h1
  have h3 := left_set done k hk h2
  refine ⟨by rw [List.length_set]; exact h.len, by have := h.cnt; simp; omega, fun j hj => ?_⟩
  have hj' : j < done.length := by rw [h.len]; exact hj
  have := h.iff j hj
  by_cases e : j = k
  · subst e; simp [hk]
  · have e' : ¬ ((j : Int) = (k : Int)) := by omega
    have e2 : k ≠ j := fun x => e x.symm
    simp only [List.getD_eq_getElem?_getD, List.getElem?_set_ne e2, List.mem_append, List.mem_singleton, e', or_false] at this ⊢
    exact this
theorem OrdInv.all {ts : List Task} {done : List Bool} {out : List Int} (h : OrdInv ts done out) (hl : out.length = ts.length) : ∀ k, k < ts.length → (k : Int) ∈ out := fun k hk => by
  rw [← h.iff k hk]
  have h0 : left done = 0 := by have := h.cnt; omega
  unfold left at h0
  rw [List.countP_eq_zero] at h0
  have hk' : k < done.length := by rw [h.len]; exact hk
  have := h0 done[k] (List.getElem_mem _)
  simpa [hk'] using this
theorem order_all (ts : List Task) : ∀ (f : Nat) (done : List Bool) (out : List Int), OrdInv ts done out → (orderGo ts f done out).length = ts.length → ∀ k, k < ts.length → (k : Int) ∈ orderGo ts f done out
  | 0, _, _, h, hl => h.all hl
  | f + 1, done, out, h, hl => by
    rw [orderGo] at hl ⊢
    split
    · rename_i he
      rw [if_pos he] at hl
      exact h.all hl
    · rename_i he
      rw [if_neg he] at hl
      exact order_all ts f _ _ (h.step he) hl
theorem orderOf_all (ts : List Task) (hl : (orderOf ts).length = ts.length) (k : Nat) (hk : k < ts.length) : (k : Int) ∈ orderOf ts := order_all ts _ _ _ (OrdInv.start ts) hl k hk

theorem rowOf_set (m : List (List Bool)) (i j : Nat) (x : List Bool) : rowOf (m.set i x) j = if i = j ∧ i < m.length then x else rowOf m j := by
  unfold rowOf
  simp only [List.getD_eq_getElem?_getD, List.getElem?_set]
  by_cases h : i = j
  · subst h
    by_cases hi : i < m.length
    · simp [hi]
    · simp [hi]
  · simp [h]
theorem rowOf_set_len (m : List (List Bool)) (i j : Nat) (x : List Bool) (hx : x.length = (rowOf m i).length) : (rowOf (m.set i x) j).length = (rowOf m j).length := by
  rw [rowOf_set]
  split
  · rename_i h; rw [hx, h.1]
  · rfl
theorem fold_keeps {α β : Type} (f : α → β → α) (P : α → Prop) (h : ∀ a b, P a → P (f a b)) : ∀ (l : List β) (a : α), P a → P (l.foldl f a)
  | [], _, ha => ha
  | b :: l, a, ha => fold_keeps f P h l (f a b) (h a b ha)
theorem depStep_len (i : Nat) (m : List (List Bool)) (k : Int) (j : Nat) : (rowOf (depStep i m k) j).length = (rowOf m j).length := by
  unfold depStep
  refine fold_keeps _ (fun (a : List (List Bool)) => (rowOf a j).length = (rowOf m j).length) (fun a b ha => ?_) _ _ (rowOf_set_len _ _ _ _ (by simp))
  rw [orStep, rowOf_set_len _ _ _ _ (by simp)]
  exact ha
theorem depStep_out (i : Nat) (m : List (List Bool)) (k : Int) : (depStep i m k).length = m.length := by
  unfold depStep
  refine fold_keeps _ (fun (a : List (List Bool)) => a.length = m.length) (fun a b ha => ?_) _ _ (by simp)
  rw [orStep, List.length_set]
  exact ha
theorem befStep_out (ts : List Task) (m : List (List Bool)) (i : Int) : (befStep ts m i).length = m.length := by
  unfold befStep
  exact fold_keeps _ (fun (a : List (List Bool)) => a.length = m.length) (fun a b ha => by rw [depStep_out]; exact ha) _ _ (by simp)
theorem befStep_len (ts : List Task) (m : List (List Bool)) (i : Int) (j : Nat) : (rowOf (befStep ts m i) j).length = if i.toNat = j ∧ i.toNat < m.length then ts.length else (rowOf m j).length := by
  unfold befStep
  have h := fold_keeps (depStep i.toNat) (fun (a : List (List Bool)) => (rowOf a j).length = (rowOf (m.set i.toNat (List.replicate ts.length false)) j).length) (fun a b ha => by rw [depStep_len]; exact ha) (afterOf ts i) _ rfl
  rw [h, rowOf_set]
  split
  · simp
  · rfl
theorem bef_fold_len (ts : List Task) (j : Nat) (hj : j < ts.length) : ∀ (l : List Int) (m : List (List Bool)), m.length = ts.length → ((rowOf m j).length = ts.length ∨ (j : Int) ∈ l) → (rowOf (l.foldl (befStep ts) m) j).length = ts.length
  | [], _, _, h => by simpa using h
  | i :: l, m, hm, h => by
    rw [List.foldl_cons]
    refine bef_fold_len ts j hj l _ (by rw [befStep_out]; exact hm) ?_
    rw [befStep_len, hm]
    by_cases hi : i.toNat = j
    · exact .inl (by rw [if_pos ⟨hi, by omega⟩])
    · rw [if_neg (fun h => hi h.1)]
      rcases h with h | h
      · exact .inl h
      · rcases List.mem_cons.1 h with h | h
        · exact absurd (by rw [← h]; simp) hi
        · exact .inr h
/-- In a whole order each row is made. -/
theorem beforeOf_row (ts : List Task) (hl : (orderOf ts).length = ts.length) (j : Nat) (hj : j < ts.length) : (rowOf (beforeOf ts) j).length = ts.length :=
  bef_fold_len ts j hj _ _ (by simp) (.inr (orderOf_all ts hl j hj))
theorem beforeOf_len (ts : List Task) : (beforeOf ts).length = ts.length := by
  unfold beforeOf
  exact fold_keeps _ (fun (a : List (List Bool)) => a.length = ts.length) (fun a b ha => by rw [befStep_out]; exact ha) _ _ (by simp)
end Go.Proofs.Ythigebbihclbiaa
