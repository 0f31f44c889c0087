/- The law's graph of the tasks. -/
import Derived.Test.YthigebbihclbiaaGrMake
namespace Go.Proofs.Ythigebbihclbiaa
open Go.RowKit
set_option maxRecDepth 100000

def edgesUpto (ts : List Task) (k : Nat) : List (Int × Int) := (List.range k).flatMap (fun (i : Nat) => (afterOf ts (i : Int)).map (fun x => (x, (i : Int))))
def edgesOf (ts : List Task) : List (Int × Int) := edgesUpto ts ts.length
def AfterUp (ts : List Task) : Prop := ∀ t ∈ ts, t.after.Pairwise (· < ·)
theorem afterErr_up (n i : Int) : ∀ (p : Option Int) (l : List Int), afterErr n i p l = 0 → (∀ q, p = some q → ∀ x ∈ l, q < x) ∧ l.Pairwise (· < ·)
  | _, [], _ => ⟨fun _ _ _ h => (nomatch h), List.Pairwise.nil⟩
  | p, y :: l, h => by
    rw [afterErr] at h
    by_cases h1 : y < 0 ∨ n ≤ y
    · rw [if_pos h1] at h; omega
    · rw [if_neg h1] at h
      by_cases h2 : y = i
      · rw [if_pos h2] at h; omega
      · rw [if_neg h2] at h
        by_cases h3 : p.any (fun q => decide (y ≤ q)) = true
        · rw [if_pos h3] at h; omega
        · rw [if_neg h3] at h
          obtain ⟨k1, k2⟩ := afterErr_up n i (some y) l h
          refine ⟨fun q hq x hx => ?_, List.pairwise_cons.2 ⟨k1 y rfl, k2⟩⟩
          subst hq
          have hqy : q < y := by simpa using h3
          rcases List.mem_cons.1 hx with rfl | hx
          · exact hqy
          · have := k1 y rfl x hx; omega
theorem afterUp_of (ts : List Task) (h : errFrom (taskErr ts) ts.length 0 = 0) : AfterUp ts := by
  intro t ht
  obtain ⟨i, hi, rfl⟩ := List.getElem_of_mem ht
  exact (afterErr_up _ _ _ _ (taskErr_after ts i hi (errFrom_zero _ _ _ h i (by omega) (by omega))).1).2
theorem afterOf_lt {ts : List Task} {i : Nat} (hi : i < ts.length) : afterOf ts i = ts[i].after := by simp [afterOf, hi]
theorem edgesUpto_succ (ts : List Task) (k : Nat) (hk : k < ts.length) : edgesUpto ts (k+1) = edgesUpto ts k ++ (ts[k].after).map (fun x => (x, (k : Int))) := by
  unfold edgesUpto
  rw [List.range_succ, List.flatMap_append]
  simp [afterOf_lt hk]
theorem edges_mem {ts : List Task} (hok : AfterOk ts) : ∀ e ∈ edgesOf ts, (0 ≤ e.1 ∧ e.1 < (ts.length : Int)) ∧ 0 ≤ e.2 ∧ e.2 < (ts.length : Int) := by
  intro e he
  obtain ⟨i, hi, he⟩ := List.mem_flatMap.1 he
  obtain ⟨x, hx, rfl⟩ := List.mem_map.1 he
  have hi' : i < ts.length := by simpa using hi
  rw [afterOf_lt hi'] at hx
  have := hok _ (List.getElem_mem hi') x hx
  exact ⟨this, by show 0 ≤ (i : Int); omega, by show (i : Int) < _; omega⟩
theorem edges_iff {ts : List Task} (a b : Int) : (a, b) ∈ edgesOf ts ↔ 0 ≤ b ∧ b < ts.length ∧ a ∈ afterOf ts b := by
  unfold edgesOf edgesUpto
  rw [List.mem_flatMap]
  constructor
  · rintro ⟨i, hi, he⟩
    obtain ⟨x, hx, he⟩ := List.mem_map.1 he
    cases he
    have hi' : i < ts.length := List.mem_range.1 hi
    exact ⟨by omega, by omega, hx⟩
  · rintro ⟨h0, h1, h2⟩
    refine ⟨b.toNat, by simp; omega, List.mem_map.2 ⟨a, ?_, ?_⟩⟩
    · rwa [show ((b.toNat : Nat) : Int) = b by omega]
    · rw [show ((b.toNat : Nat) : Int) = b by omega]
theorem edges_nodup {ts : List Task} (hu : AfterUp ts) : (edgesOf ts).Nodup := by
  unfold edgesOf edgesUpto List.Nodup
  rw [List.pairwise_flatMap]
  constructor
  · intro i hi
    have hi' : i < ts.length := by simpa using hi
    rw [afterOf_lt hi', List.pairwise_map]
    exact (hu _ (List.getElem_mem hi')).imp (fun {a b} h e => by have := (Prod.mk.inj e).1; omega)
  · refine List.Pairwise.imp ?_ (List.pairwise_lt_range (n := ts.length))
    intro a b hab x hx y hy e
    obtain ⟨_, _, rfl⟩ := List.mem_map.1 hx
    obtain ⟨_, _, rfl⟩ := List.mem_map.1 hy
    have := (Prod.mk.inj e).2
    omega
theorem edgesUpto_len {ts : List Task} (m : Nat) (h : ∀ t ∈ ts, t.after.length ≤ m) : ∀ k, k ≤ ts.length → (edgesUpto ts k).length ≤ k * m
  | 0, _ => by simp [edgesUpto]
  | k + 1, hk => by
    have h1 := edgesUpto_len m h k (by omega)
    have h2 := h _ (List.getElem_mem (show k < ts.length by omega))
    rw [edgesUpto_succ ts k (by omega), List.length_append, List.length_map, Nat.add_mul]
    omega

/-- What holds in edges' loops. -/
structure EdInv (w wr : World) (a b v : Value) (xs : List (Int × Int)) : Prop where
  box : Boxed w wr a b
  size : w.heap.size + 1 < wr.heap.size
  r0 : wr.cell? ⟨w.heap.size + 1, 0, none⟩ = some (.int .i64 0)
  r1 : wr.cell? ⟨w.heap.size + 1, 1, none⟩ = some (.slice none 0 0)
  rf : ∀ o, wr.frozen? ⟨w.heap.size + 1, o, none⟩ = false
  own : Kd.edge.Own 89 wr (w.heap.size + 2) Kd.NoB v xs
theorem EdInv.later {w wr wx : World} {a b v : Value} {xs : List (Int × Int)} (h : EdInv w wr a b v xs) (hb : Below wr.heap.size wr wx) : EdInv w wx a b v xs :=
  ⟨h.box.later hb, Nat.lt_of_lt_of_le h.size hb.size, (hb.cell (show w.heap.size + 1 < _ from h.size)).trans h.r0, (hb.cell (show w.heap.size + 1 < _ from h.size)).trans h.r1, fun o => (hb.frozen (show w.heap.size + 1 < _ from h.size)).trans (h.rf o), h.own.below hb⟩
theorem EdInv.grown {w wr wx : World} {a b v v' : Value} {xs xs' : List (Int × Int)} (h : EdInv w wr a b v xs) (hg : wr.grownBy wx v.ownBlock) (ho : Kd.edge.Own 89 wx (w.heap.size + 2) Kd.NoB v' xs') : EdInv w wx a b v' xs' := by
  have far : ∀ k, k < w.heap.size + 2 → some k ≠ v.ownBlock := fun k hk e => by have := (h.own.lt k e.symm).1; omega
  have far0 := far w.heap.size (by omega)
  have far1 := far (w.heap.size + 1) (by omega)
  have hz := h.size
  exact ⟨⟨hg.cell h.box.c0 far0, hg.cell h.box.c1 far0, h.box.below.grown hg h.box.below.size (fun j hj => by have := (h.own.lt j hj).1; omega), Nat.lt_of_lt_of_le h.box.size hg.size⟩, Nat.lt_of_lt_of_le hz hg.size, hg.cell h.r0 far1, hg.cell h.r1 far1,
    fun o => (hg.frozen_far ⟨w.heap.size + 1, o, none⟩ (by show w.heap.size + 1 < _; omega) far1).trans (h.rf o), ho⟩
theorem EdInv.start (w : World) (a b : Value) (t u : TypeId) : EdInv w ((w.alloc (.cells #[a, b] t)).alloc (.cells #[.int .i64 0, .slice none 0 0] u)) a b (.slice none 0 0) [] :=
  ⟨⟨by go_simp, by go_simp, below_two _ _ _, by simp; omega⟩, by simp, by go_simp, by go_simp, fun o => by go_simp, Kd.Own.nil _ _ _ _ _⟩
end Go.Proofs.Ythigebbihclbiaa

/- The law's edges, walked. -/
namespace Go.Proofs.Ythigebbihclbiaa
open Go.RowKit
set_option maxRecDepth 100000

def RetE (n : Nat) (es : List (Int × Int)) (w : World) (e : Ending) (w' : World) : Prop := ∃ es' v, e = .returned v ∧ es'.Perm es ∧ Rising es' ∧ GraphAt w' (fun b => w.heap.size ≤ b) n es' v ∧ Below w.heap.size w w'

set_option maxHeartbeats 2000000 in
theorem law_edges (s : Shop) (F : Nat → Prop) (v : Value) (w : World) (h : ShopAt w F s v) (hlen : s.tasks.length ≤ 24) (hok : AfterOk s.tasks) (hup : AfterUp s.tasks) (hal : ∀ t ∈ s.tasks, t.after.length ≤ 1000) :
    Calls Try.prog 40 #[v] w (RetE s.tasks.length (edgesOf s.tasks) w) := by
  obtain ⟨v1, v2, rfl, ⟨A, c, rfl, hc1, hc2, hr⟩, h2⟩ := h
  have I0 := EdInv.start w (.slice A s.tasks.length c) v2 25 70
  have HM := Lib.hid (edges_mem hok)
  have HD := Lib.hid (edges_nodup hup)
  have HL := Lib.hid (edgesUpto_len 1000 hal)
  have HA := Lib.hid hal
  have HR := Lib.hid (show edgesUpto s.tasks s.tasks.length = edgesOf s.tasks from rfl)
  clear hok hup hal h2
  generalize hes : edgesOf s.tasks = es at *
  clear hes
  go_enter Try.func40, Try.ntmps40
  go_upto_region 1 with fail
  generalize (w.alloc _).alloc _ = W at *
  go_wp2_with fail
  go_loopw [3, 4, 6] (fun i3 i4 _ wr => ∃ (k : Nat) (xs : List (Int × Int)), k ≤ s.tasks.length ∧ i4 = .int .i64 k ∧ EdInv w wr (.slice A s.tasks.length c) v2 i3 xs ∧ Hid (xs = edgesUpto s.tasks k)) (fun _ i4 _ _ => s.tasks.length - (intOf i4).toNat)
  case atStart => exact ⟨0, [], Nat.zero_le _, rfl, I0, Lib.hid rfl⟩
  case round =>
    clear I0
    obtain ⟨k, xs, hk, rfl, I, HX⟩ := hrel
    have k0 := I.box.c0
    by_cases hlt : k < s.tasks.length
    · obtain ⟨b, oo, A1, a1, rfl, _, hl1, _, _, _, cw3, hK⟩ := task_at hr k hlt
      have c3 := (I.box.below.cell (p := ⟨b, oo + k * 4 + 3, none⟩) hl1).trans cw3
      have hA := Kd.K_after hK
      have hlt' : (k : Int) < (s.tasks.length : Int) := by omega
      have hal := HA.out s.tasks[k] (List.getElem_mem _)
      have hxl := HL.out k hk
      rw [← HX.out] at hxl
      have HS := Lib.hid (edgesUpto_succ s.tasks k hlt)
      clear hK cw3
      generalize s.tasks[k].after = al at *
      obtain ⟨W2, rfl⟩ : ∃ W2 : World, W2 = wr := ⟨_, rfl⟩
      go_wp2_with fail
      clear k0 c3
      obtain ⟨A3, a3, he3, ha1, ha2, hra⟩ := hA
      obtain ⟨rfl, -, rfl⟩ := Value.slice.inj he3
      clear he3
      go_loopw [3, 6, 23] (fun i3 _ i23 wr => ∃ (j : Nat) (ys : List (Int × Int)), j ≤ al.length ∧ i23 = .int .i64 j ∧ EdInv w wr (.slice (some ⟨b, oo, none⟩) s.tasks.length c) v2 i3 ys ∧ Hid (ys = xs ++ (al.take j).map (fun x => (x, (k : Int))))) (fun _ _ i23 _ => al.length - (intOf i23).toNat)
      case atStart => exact ⟨0, xs, Nat.zero_le _, rfl, I, Lib.hid (by simp)⟩
      case round =>
        clear I
        obtain ⟨j, ys, hj, rfl, I, HY⟩ := hrel
        by_cases hlt2 : j < al.length
        · obtain ⟨b2, o2, rfl, _, hl2, d0⟩ := int_at (hra.keep (Agree.below I.box.below)) j hlt2
          have hlt2' : (j : Int) < (al.length : Int) := by omega
          have HY2 : Hid (xs ++ (al.take (j+1)).map (fun x => (x, (k : Int))) = ys ++ [(al[j], (k : Int))]) := Lib.hid (by rw [take_succ_at _ _ hlt2, List.map_append, ← List.append_assoc, ← HY.out]; rfl)
          have hyl : ys.length ≤ 100000 := by rw [HY.out]; simp; omega
          have hob : (ys.length + 1) * 16 ≤ 140737488355328 := by omega
          generalize al[j] = x at *
          obtain ⟨uA, uc, rfl, _⟩ := I.own.slice
          have hz := I.size
          go_wp2_with (at_builtin; go_must (refine Kd.app_at Kd.edge (w.heap.size + 2) Kd.NoB rfl (.tmp 27) (.tmp 31) 68 89 _ 16 rfl Try.underlying68 edge_info rfl (by decide) (by omega) (.slice uA ys.length uc) ys (x, (k : Int)) #[.int .i64 x, .int .i64 k] rfl _ rfl rfl (Kd.K_edge.2 rfl) I.own (by omega) (fun b hb => hb.elim) hob ?_; intro v1 w6 ho6 hg6 hat6; obtain ⟨nA, nc, rfl, _⟩ := ho6.slice; have J := I.grown hg6 ho6; clear ho6 hat6 hg6))
          go_roundw
          case rel =>
            rw [List.length_append] at J
            exact ⟨j+1, _, by omega, by go_num, J, Lib.hid HY2.out.symm⟩
          case measure => simp [intOf]; omega
        · go_wp2_with fail
          go_roundw
          case rel => exact ⟨k+1, ys, by omega, by go_num, I, Lib.hid (by rw [HY.out, HS.out, HX.out, List.take_of_length_le (by omega)])⟩
          case measure => simp [intOf]; omega
    · have HX2 : Hid (xs = es) := Lib.hid (by rw [HX.out, show k = s.tasks.length by omega, HR.out])
      obtain ⟨W2, rfl⟩ : ∃ W2 : World, W2 = wr := ⟨_, rfl⟩
      have hxl := HL.out k hk
      rw [← HX.out] at hxl
      obtain ⟨uA, uc, rfl, _⟩ := I.own.slice
      have hmk := graph_make s.tasks.length xs _ _ W2 I.own.sl (by omega) (by omega) (by rw [HX2.out]; exact HM.out) (by rw [HX2.out]; exact HD.out)
      go_wp2_with fail
      refine hmk.mono ?_
      rintro e w1 ⟨es', gv, rfl, hP, hR, ⟨gv2, rfl, hSl⟩, hb1⟩
      have I1 := I.later hb1
      have r0 := I1.r0
      have r1 := I1.r1
      have rf0 := I1.rf 0
      have rf1 := I1.rf 1
      have hz := I1.size
      have hz1 := hb1.size
      have hzW := I.size
      obtain ⟨gA, gc, rfl, _⟩ := id hSl
      clear hmk k0
      go_wp2_with fail
      (try simp only [Exit.inBlock, Exit.then])
      refine bodyPost_ret (results_c rfl _ _ _ (.agg #[.int .i64 s.tasks.length, .slice gA es'.length gc]) rfl (by go_simp)) rfl ?_
      have gs : ∀ (W : World) (o : Nat) (x : Value), W.grownBy (W.setCell ⟨w.heap.size + 1, o, none⟩ x) (some (w.heap.size + 1)) := fun W o x => ⟨rfl, rfl, rfl, by simp [World.setCell], fun k _ hk => Below.heap_setCell _ _ _ _ (fun e => hk (by rw [e]))⟩
      have fr : ∀ b, W2.heap.size ≤ b → some b ≠ some (w.heap.size + 1) := fun b hb e => by have := Option.some.inj e; omega
      have hS3 := ((hSl.keep (Agree.grown (gs _ 0 (.int .i64 s.tasks.length)) fr)).keep (Agree.grown (gs _ 1 (.slice gA es'.length gc)) fr)).keep (Agree.below (below_one _ (.cells #[.int .i64 s.tasks.length, .slice gA es'.length gc] 70)))
      refine ⟨es', _, rfl, by rw [← HX2.out]; exact hP, hR, ⟨_, rfl, hS3.mono (by decide) (fun b hb _ => by omega)⟩, ?_⟩
      have hbb := (I1.box.below.setCell (p := ⟨w.heap.size + 1, 0, none⟩) (by show w.heap.size ≤ w.heap.size + 1; omega) (.int .i64 s.tasks.length)).setCell (p := ⟨w.heap.size + 1, 1, none⟩) (by show w.heap.size ≤ w.heap.size + 1; omega) (.slice gA es'.length gc)
      exact hbb.alloc (by have := hbb.size; omega) _
end Go.Proofs.Ythigebbihclbiaa
