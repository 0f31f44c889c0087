/- slices.SortFunc at edges, by graph.order. -/
import Derived.Test.YthigebbihclbiaaGrCheck
import Derived.Test.YthigebbihclbiaaShelf2
import Derived.Shelf.SlSortCmp.NoneTotal
namespace Go.Proofs.Ythigebbihclbiaa
open Go.RowKit Go.Sort
set_option maxRecDepth 100000

theorem grown_putRow_id {w : World} {g q : Nat} {d : Array Value} : w.grownBy (putRow id (Sort.ahead w q) g 0 d) (some g) :=
  ⟨rfl, rfl, rfl, by simp [putRow, mapBlock, Sort.ahead], fun k _ hk => by
    have : g ≠ k := fun e => hk (by rw [e])
    simp [putRow, mapBlock, Sort.ahead, Array.getElem?_modify, this]⟩
theorem grown_grow {w : World} (os : Array Obj) (row : Option Nat) : w.grownBy (grow w os) row :=
  ⟨rfl, rfl, rfl, by simp [grow], fun k hk _ => by show (w.heap ++ os)[k]? = _; rw [Array.getElem?_append_left hk]⟩
theorem edge_swo : SWO (ltOf edgeCmp) := by
  have h : ∀ x y, ltOf edgeCmp x y = true ↔ edgeLt x y := fun x y => by unfold ltOf; rw [decide_eq_true_iff]; exact edgeCmp_neg x y
  have h' : ∀ x y, ltOf edgeCmp x y = false ↔ ¬ edgeLt x y := fun x y => by rw [← h, Bool.not_eq_true]
  refine ⟨fun x => ?_, fun x y z => ?_, fun x y z => ?_⟩
  · rw [h']; unfold edgeLt; omega
  · rw [h, h, h]; unfold edgeLt; omega
  · rw [h', h', h']; unfold edgeLt; omega
theorem ltOf_false (x y : Int × Int) : ltOf edgeCmp x y = false ↔ ¬ edgeLt x y := by
  unfold ltOf; rw [decide_eq_false_iff_not, edgeCmp_neg]
theorem edgeLt_total (x y : Int × Int) (h : ¬ edgeLt y x) (hne : x ≠ y) : edgeLt x y := by
  obtain ⟨a, b⟩ := x
  obtain ⟨c, d⟩ := y
  unfold edgeLt at *
  simp only [ne_eq, Prod.mk.injEq, not_and] at *
  omega

theorem edge_holds {w : World} {base g cap : Nat} {es : List (Int × Int)} (h : w.ownsRow base 89 2 (.slice (some ⟨g, 0, none⟩) es.length cap) es.length (es.flatMap edgeCells)) : HoldsK edgeCells 2 w g 0 es.toArray := by
  intro j hj
  have hj' : j < es.length * 2 := by simpa using hj
  obtain ⟨i, r, hi, hr, rfl, h2⟩ := flat_get (f := edgeCells) (k := 2) (fun _ => rfl) es j hj'
  refine ⟨?_, by rw [Nat.zero_add]; exact h.frozenAt _⟩
  rw [Nat.zero_add, h.cellAt _ hj', h2, get_flatK _ _ _ _ hj']
  have e1 : (i * 2 + r) / 2 = i := by omega
  have e2 : (i * 2 + r) % 2 = r := by omega
  rw [e1, e2, getElem!_pos es.toArray i (by simpa using hi)]
  rcases (show r = 0 ∨ r = 1 by omega) with rfl | rfl <;> rfl
theorem holds_edge_row {w : World} {g : Nat} {es : List (Int × Int)} {F : Nat → Prop} (h : HoldsK edgeCells 2 w g 0 es.toArray) (hF : F g) : Kd.edge.Row w F (some ⟨g, 0, none⟩) es := by
  intro i hi
  refine ⟨g, 0, _, rfl, hF, Kd.K_edge.2 rfl, fun j v hj => ?_⟩
  have hjl : j < 2 := (List.getElem?_eq_some_iff.1 hj).1
  have hij : i * 2 + j < es.length * 2 := by omega
  obtain ⟨h1, _⟩ := h (i * 2 + j) (by simpa using hij)
  have e1 : (i * 2 + j) / 2 = i := by omega
  have e2 : (i * 2 + j) % 2 = j := by omega
  rw [get_flatK _ _ _ _ (by simpa using hij), e1, e2, getElem!_pos es.toArray i (by simpa using hi)] at h1
  show w.cell? ⟨g, 0 + (i * 2 + j), none⟩ = some v
  rw [h1]
  rcases (show j = 0 ∨ j = 1 by omega) with rfl | rfl <;> exact hj

set_option maxHeartbeats 1000000 in
theorem sort_edge (v : Value) (base : Nat) (es : List (Int × Int)) (w : World) (h : w.ownsRow base 89 2 v es.length (es.flatMap edgeCells)) (hl : es.length ≤ 1000000) (hnd : es.Nodup) :
    Calls Try.prog 75 #[v, .func (.func 73) #[] #[]] w fun e w' => e = .returned (.tuple #[]) ∧ ∃ es', es'.Perm es ∧ Rising es' ∧ Kd.edge.Sl w' (fun b => base ≤ b ∧ b < w.heap.size) es' v ∧ w.grownBy w' v.ownBlock := by
  rcases Nat.eq_zero_or_pos es.length with h0 | hp
  · obtain rfl : es = [] := List.length_eq_zero_iff.1 h0
    obtain ⟨p, cap, rfl, hcap⟩ : ∃ p cap, v = .slice p 0 cap ∧ cap ≤ 9223372036854775807 := by
      rcases h.2 with ⟨rfl, _⟩ | ⟨g, cap, cur, rfl, _, _, _, hm, _⟩
      · exact ⟨none, 0, rfl, by omega⟩
      · exact ⟨_, _, rfl, by simpa [maxLen] using hm⟩
    refine (AnyF.slices_SortFunc_none Try.laysSortEdge p cap _ w).mono ?_
    rintro e w' ⟨rfl, rfl⟩
    exact ⟨rfl, [], .nil, fun i hi => absurd hi (by simp), ⟨p, cap, rfl, Nat.zero_le _, hcap, Kd.Row.nil _ _ _ _⟩, World.grownBy.refl _ _⟩
  · obtain ⟨g, cap, rfl, hb, hg⟩ := h.form hp
    have hcap : es.length ≤ cap ∧ cap ≤ 9223372036854775807 := by
      rcases h.2 with ⟨he, _⟩ | ⟨g', cap', cur, he, _, _, hn, hm, _⟩
      · cases he
      · obtain ⟨-, -, rfl⟩ := Value.slice.inj he
        exact ⟨hn, by simpa [maxLen] using hm⟩
    have hH := edge_holds h
    have eg : ∀ args w, (callFunc 73 args).run Try.prog w = .ok (.enter 73 args) w := enters_of Try.func73 (by kernel_rfl) rfl
    have hcmp : CmpLays Try.prog 73 #[] edgeCells 2 edgeCmp g 0 es.toArray.size w := fun m os dk _ x y => (order_edge x y _).mono fun _ _ ⟨he, hw⟩ => ⟨he, hw⟩
    have hs := AnyQ.slices_SortFunc Try.laysSortEdge 2 Try.isAgg89 Try.sizeOf89 edgeCells (fun _ => rfl) (fun x v hv => by simp [edgeCells] at hv; rcases hv with rfl | rfl <;> rfl) edgeCmp edge_swo 73 #[] g 0 cap es.toArray w eg hcmp hH hg (by simp; omega)
    refine hs.mono ?_
    rintro e w' ⟨rfl, d', n, os, hP, hS, rfl⟩
    obtain ⟨hsz, _, hperm⟩ := hP
    have hsz' : d'.toList.length = es.length := by simpa using hsz
    have hperm' : d'.toList.Perm es := by
      have e1 : d'.extract 0 es.toArray.size = d' := by rw [← hsz]; simp
      have e2 : es.toArray.extract 0 es.toArray.size = es.toArray := by simp
      rw [e1, e2] at hperm
      simpa using hperm
    have hnd' : d'.toList.Nodup := hperm'.nodup_iff.2 hnd
    have hrow : HoldsK edgeCells 2 (putRow id (Sort.ahead w n) g 0 (flatK edgeCells 2 d')) g 0 d' := holds_putRow id (Sort.ahead w n) g 0 (flatK edgeCells 2 es.toArray) (flatK edgeCells 2 d') (holds_ahead id w n g 0 _ hH) (by simp [hsz])
    have hgr : w.grownBy (putRow id (Sort.ahead w n) g 0 (flatK edgeCells 2 d')) (some g) := grown_putRow_id
    have hgx : w.grownBy (sortWorldK edgeCells 2 w g 0 n d' os) (some g) := hgr.trans (grown_grow os (some g))
    have hrow2 : Kd.edge.Row (putRow id (Sort.ahead w n) g 0 (flatK edgeCells 2 d')) (fun b => base ≤ b ∧ b < w.heap.size) (some ⟨g, 0, none⟩) d'.toList := holds_edge_row (by simpa using hrow) ⟨hb, hg⟩
    refine ⟨rfl, d'.toList, hperm', fun i hi => ?_, ⟨_, cap, by rw [hsz'], by omega, hcap.2, hrow2.keep (Agree.grown (grown_grow os none) (fun _ _ => by simp))⟩, hgx⟩
    have h1 := hS i (i+1) (Nat.zero_le _) (by omega) (by simpa using (by omega : i + 1 < es.length))
    rw [ltOf_false] at h1
    have g0 : d'[i]! = d'.toList[i] := by rw [getElem!_pos d' i (by rw [← Array.length_toList]; omega)]; simp
    have g1 : d'[i+1]! = d'.toList[i+1] := by rw [getElem!_pos d' (i+1) (by rw [← Array.length_toList]; omega)]; simp
    rw [g0, g1] at h1
    refine edgeLt_total _ _ h1 (fun e => ?_)
    have := (List.getElem_inj hnd').1 e
    omega
end Go.Proofs.Ythigebbihclbiaa

/- graph.Make of edges all unlike. -/
namespace Go.Proofs.Ythigebbihclbiaa
open Go.RowKit
set_option maxRecDepth 100000

/-- A graph and an error code. -/
def RetG (n : Nat) (es : List (Int × Int)) (w : World) (e : Ending) (w' : World) : Prop := ∃ es' v, e = .returned (.tuple #[v, .int .i64 0]) ∧ es'.Perm es ∧ Rising es' ∧ GraphAt w' (fun b => w.heap.size ≤ b) n es' v ∧ Below w.heap.size w w'

set_option maxHeartbeats 2000000 in
theorem graph_make (n : Nat) (es : List (Int × Int)) (F : Nat → Prop) (v : Value) (w : World) (h : Kd.edge.Sl w F es v) (hn : n ≤ 64) (hl : es.length ≤ 1000000) (hm : ∀ e ∈ es, (0 ≤ e.1 ∧ e.1 < n) ∧ 0 ≤ e.2 ∧ e.2 < n) (hnd : es.Nodup) :
    Calls Try.prog 62 #[.int .i64 n, v] w (RetG n es w) := by
  have hS := Lib.hid (show ∀ W, Below w.heap.size w W → Kd.edge.Sl W F es v from fun W hW => h.keep (Agree.below hW))
  obtain ⟨A, c, rfl, hc1, hc2, hr⟩ := h
  have hB := Boxed.start w (.int .i64 0) (.slice none 0 0) 70
  have hf : ∀ o, (w.alloc (.cells #[.int .i64 0, .slice none 0 0] 70)).frozen? ⟨w.heap.size, o, none⟩ = false := fun o => by go_simp
  have HM := Lib.hid hm
  have HD := Lib.hid hnd
  have g1 : decide ((n : Int) < 0) = false := decide_eq_false (by omega)
  have g2 : decide ((64 : Int) < (n : Int)) = false := decide_eq_false (by omega)
  clear hm hnd
  go_enter Try.func62, Try.ntmps62
  go_upto_region 1 with fail
  generalize w.alloc _ = W at *
  go_wp2_with fail
  clear g1 g2
  go_loopw [7, 18] (fun _ i18 wr => ∃ k : Nat, k ≤ es.length ∧ i18 = .int .i64 k ∧ Boxed w wr (.int .i64 0) (.slice none 0 0) ∧ ∀ o, wr.frozen? ⟨w.heap.size, o, none⟩ = false) (fun _ i18 _ => es.length - (intOf i18).toNat)
  case atStart => exact ⟨0, Nat.zero_le _, rfl, hB, hf⟩
  case round =>
    clear hB hf
    obtain ⟨k, hk, rfl, hB, hf⟩ := hrel
    by_cases hlt : k < es.length
    · obtain ⟨b, o, rfl, _, hl1, cw0, cw1⟩ := edge_at hr k hlt
      have c0 := (hB.below.cell (p := ⟨b, o + k * 2, none⟩) hl1).trans cw0
      have c1 := (hB.below.cell (p := ⟨b, o + k * 2 + 1, none⟩) hl1).trans cw1
      obtain ⟨⟨m0, m1⟩, m2, m3⟩ := HM.out es[k] (List.getElem_mem _)
      have hlt' : (k : Int) < (es.length : Int) := by omega
      have hb2 := below_one wr (.cells #[.int .i64 es[k].1, .int .i64 es[k].2] 89)
      have hB2 := hB.later hb2
      have hf2 := fun o => (hb2.frozen (show w.heap.size < _ from hB.size)).trans (hf o)
      have hz := hB.size
      clear cw0 cw1 hb2
      generalize es[k].1 = x at *
      generalize es[k].2 = y at *
      have bb : ∀ (z : Int) (W : World), (z = x ∨ z = y) → Calls Try.prog 72 #[.int .i64 n, .int .i64 z] W fun e w' => e = .returned (.bool false) ∧ W = w' := fun z W h => beyond_in n z (by omega) (by omega) W
      clear m0 m1 m2 m3
      go_wp2_with (refine (bb _ _ (by first | exact .inl rfl | exact .inr rfl)).mono ?_; rintro e' w' ⟨rfl, rfl⟩)
      go_roundw
      case rel => exact ⟨k+1, by omega, by go_num, hB2, hf2⟩
      case measure => simp [intOf]; omega
    · obtain ⟨W, rfl⟩ : ∃ W : World, W = wr := ⟨_, rfl⟩
      have hcl := clone_edge _ F es W (hS.out W hB.below) hl
      go_wp2_with fail
      refine hcl.mono ?_
      rintro e w1 ⟨u, rfl, ho, hb1⟩
      have hB1 := hB.later hb1
      have hf1 := fun o => (hb1.frozen (show w.heap.size < _ from hB.size)).trans (hf o)
      have hz := hB.size
      have hso := sort_edge u W.heap.size es w1 ho hl HD.out
      have hlo := ho.lt
      have hz1 := hb1.size
      obtain ⟨uA, uc, rfl⟩ : ∃ uA uc, u = .slice uA es.length uc := by
        rcases ho.2 with ⟨rfl, h0⟩ | ⟨g, cap, cur, rfl, _⟩
        · exact ⟨none, 0, by rw [h0]⟩
        · exact ⟨_, _, rfl⟩
      clear hcl ho hb1 hB hf
      go_wp2_with fail
      refine hso.mono ?_
      rintro e w2 ⟨rfl, es', hP, hR, hSl, hg2⟩
      have hlen := hP.length_eq
      have hz2 := hg2.size
      have far : some w.heap.size ≠ (Value.slice uA es.length uc).ownBlock := fun e => by have := (hlo _ e.symm).1; omega
      have hb2 : Below w.heap.size w w2 := hB1.below.grown hg2 hB1.below.size (fun j hj => by have := (hlo j hj).1; omega)
      have c0 := hg2.cell hB1.c0 far
      have c1 := hg2.cell hB1.c1 far
      have f0 : w2.frozen? ⟨w.heap.size, 0, none⟩ = false := (hg2.frozen_far ⟨w.heap.size, 0, none⟩ (by show w.heap.size < _; omega) far).trans (hf1 0)
      have f1 : w2.frozen? ⟨w.heap.size, 1, none⟩ = false := (hg2.frozen_far ⟨w.heap.size, 1, none⟩ (by show w.heap.size < _; omega) far).trans (hf1 1)
      have hco := compact_edge _ _ es' w2 hSl hR
      clear hso hB1 hf1 hg2 far
      go_wp2_with fail
      refine hco.mono ?_
      rintro e w3 ⟨rfl, q, rfl⟩
      clear hco
      go_wp2_with fail
      (try simp only [Exit.inBlock, Exit.then])
      refine bodyPost_ret (results_ct rfl _ _ _ (.agg #[.int .i64 n, .slice uA es.length uc]) rfl (by go_simp)) rfl ?_
      have gs : ∀ (W : World) (o : Nat) (x : Value), W.grownBy (W.setCell ⟨w.heap.size, o, none⟩ x) (some w.heap.size) := fun W o x => ⟨rfl, rfl, rfl, by simp [World.setCell], fun k _ hk => Below.heap_setCell _ _ _ _ (fun e => hk (by rw [e]))⟩
      have fr : ∀ b, (W.heap.size ≤ b ∧ b < w1.heap.size) → some b ≠ some w.heap.size := fun b hb e => by have := Option.some.inj e; omega
      have hS3 := ((hSl.keep ((Drawn.of w2 q).agree _)).keep (Agree.grown (gs _ 0 (.int .i64 n)) fr)).keep (Agree.grown (gs _ 1 (.slice uA es.length uc)) fr)
      exact ⟨es', _, rfl, hP, hR, ⟨_, rfl, hS3.mono (by decide) (fun b hb _ => by omega)⟩, ((below_drewN hb2 q).setCell (Nat.le_refl _) _).setCell (Nat.le_refl _) _⟩
end Go.Proofs.Ythigebbihclbiaa
