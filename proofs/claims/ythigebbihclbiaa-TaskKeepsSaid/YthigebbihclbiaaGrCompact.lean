/- cmp.Compare, cmp.Or at ints; graph.order, graph.beyond. -/
import Derived.Test.YthigebbihclbiaaFew
import Derived.Deep.RegionHeld3
import Derived.Sort.Grow
import Derived.Laws.StructEq
namespace Go.Proofs.Ythigebbihclbiaa
open Go.RowKit Go.Sort
set_option maxRecDepth 100000

def cmp3 (a b : Int) : Int := if a < b then -1 else if b < a then 1 else 0

theorem isNaN_int (x : Int) (w : World) : Calls Try.prog 86 #[.int .i64 x] w fun e w' => e = .returned (.bool false) ∧ w = w' := by
  have hx : (x != x) = false := by simp
  go_enter Try.func86, Try.ntmps86
  go_wp2_with fail
  go_ret
  exact ⟨rfl, rfl⟩
theorem compare_int (a b : Int) (w : World) : Calls Try.prog 82 #[.int .i64 a, .int .i64 b] w fun e w' => e = .returned (.int .i64 (cmp3 a b)) ∧ w = w' := by
  have h1 := isNaN_int a
  have h2 := isNaN_int b
  by_cases p1 : a < b
  · have e : cmp3 a b = -1 := if_pos p1
    rw [e]
    clear e
    go_enter Try.func82, Try.ntmps82
    go_wp2_with (first | (refine (h1 _).mono ?_; rintro e' w' ⟨rfl, rfl⟩) | (refine (h2 _).mono ?_; rintro e' w' ⟨rfl, rfl⟩))
    go_ret
    exact ⟨rfl, rfl⟩
  · by_cases p2 : b < a
    · have e : cmp3 a b = 1 := by rw [cmp3, if_neg p1, if_pos p2]
      rw [e]
      clear e
      go_enter Try.func82, Try.ntmps82
      go_wp2_with (first | (refine (h1 _).mono ?_; rintro e' w' ⟨rfl, rfl⟩) | (refine (h2 _).mono ?_; rintro e' w' ⟨rfl, rfl⟩))
      go_ret
      exact ⟨rfl, rfl⟩
    · have e : cmp3 a b = 0 := by rw [cmp3, if_neg p1, if_neg p2]
      rw [e]
      clear e
      go_enter Try.func82, Try.ntmps82
      go_wp2_with (first | (refine (h1 _).mono ?_; rintro e' w' ⟨rfl, rfl⟩) | (refine (h2 _).mono ?_; rintro e' w' ⟨rfl, rfl⟩))
      go_ret
      exact ⟨rfl, rfl⟩
def or2 (a b : Int) : Int := if a = 0 then b else a
theorem or_int (a b : Int) (g : Nat) (w : World) (h0 : w.cell? ⟨g, 0, none⟩ = some (.int .i64 a)) (h1 : w.cell? ⟨g, 1, none⟩ = some (.int .i64 b)) : Calls Try.prog 81 #[.slice (some ⟨g, 0, none⟩) 2 2] w fun e w' => e = .returned (.int .i64 (or2 a b)) ∧ w = w' := by
  generalize hR : or2 a b = R
  have HR := Lib.hid hR
  clear hR
  go_enter Try.func81, Try.ntmps81
  go_wp2_with fail
  go_loopw [5, 8] (fun _ i8 wr => wr = w ∧ (i8 = .int .i64 0 ∨ (i8 = .int .i64 1 ∧ Hid (a = 0)) ∨ (i8 = .int .i64 2 ∧ Hid (a = 0) ∧ Hid (b = 0)))) (fun _ i8 _ => 2 - (intOf i8).toNat)
  case atStart => exact ⟨rfl, .inl rfl⟩
  case round =>
    obtain ⟨rfl, rfl | ⟨rfl, H⟩ | ⟨rfl, H, H'⟩⟩ := hrel
    · by_cases p : a = 0
      · have g1 : (a != 0) = false := by simpa using p
        have HP := Lib.hid p
        clear p
        go_wp2_with fail
        go_roundw
        case rel => exact ⟨by first | trivial | rfl, .inr (.inl ⟨rfl, HP⟩)⟩
        case measure => simp [intOf]
      · have g1 : (a != 0) = true := by simpa using p
        have e : R = a := by rw [← HR.out]; exact if_neg p
        subst e
        clear p
        go_wp2_with fail
        go_ret
        exact ⟨rfl, rfl⟩
    · by_cases p : b = 0
      · have g1 : (b != 0) = false := by simpa using p
        have HP := Lib.hid p
        clear p
        go_wp2_with fail
        go_roundw
        case rel => exact ⟨by first | trivial | rfl, .inr (.inr ⟨rfl, H, HP⟩)⟩
        case measure => simp [intOf]
      · have g1 : (b != 0) = true := by simpa using p
        have e : R = b := by rw [← HR.out]; exact if_pos H.out
        subst e
        clear p
        go_wp2_with fail
        go_ret
        exact ⟨rfl, rfl⟩
    · have e : R = 0 := by rw [← HR.out, or2, if_pos H.out, H'.out]
      subst e
      go_wp2_with fail
      go_ret
      exact ⟨rfl, rfl⟩

theorem beyond_calls (n k : Int) (w : World) : Calls Try.prog 72 #[.int .i64 n, .int .i64 k] w fun e w' => e = .returned (.bool (decide (k < 0) || decide (n ≤ k))) ∧ w = w' := by
  by_cases p : k < 0
  · have g1 : decide (k < 0) = true := decide_eq_true p
    rw [g1, Bool.true_or]
    go_enter Try.func72, Try.ntmps72
    go_wp2_with fail
    go_ret
    exact ⟨rfl, rfl⟩
  · have g1 : decide (k < 0) = false := decide_eq_false p
    rw [g1, Bool.false_or]
    go_enter Try.func72, Try.ntmps72
    go_wp2_with fail
    go_ret
    exact ⟨rfl, rfl⟩

/-- Orders drawn and blocks laid, nothing else. -/
def Grew (w w' : World) : Prop := ∃ q os, w' = grow (w.drewN q) os
theorem Grew.refl (w : World) : Grew w w := ⟨0, #[], by rw [grow_empty]; rfl⟩
theorem Grew.alloc {w w' : World} (h : Grew w w') (o : Obj) : Grew w (w'.alloc o) := by
  obtain ⟨q, os, rfl⟩ := h
  exact ⟨q, os ++ #[o], by rw [alloc_eq_grow, grow_grow]⟩
theorem Grew.drewN {w w' : World} (h : Grew w w') (n : Nat) : Grew w (w'.drewN n) := by
  obtain ⟨q, os, rfl⟩ := h
  exact ⟨q + n, os, by rw [← World.drewN_drewN]; rfl⟩
theorem Grew.drew {w w' : World} (h : Grew w w') : Grew w w'.drew := h.drewN 1
theorem Grew.below {w w' : World} (h : Grew w w') : Below w.heap.size w w' := by
  obtain ⟨q, os, rfl⟩ := h
  refine ⟨rfl, rfl, rfl, by simp [grow, World.drewN], fun b hb => ?_⟩
  show (w.heap ++ os)[b]? = w.heap[b]?
  rw [Array.getElem?_append_left hb]

def edgeCmp (x y : Int × Int) : Int := or2 (cmp3 x.1 y.1) (cmp3 x.2 y.2)
set_option maxRecDepth 100000 in
set_option maxHeartbeats 1000000 in
theorem order_edge (x y : Int × Int) (w : World) : Calls Try.prog 73 #[.agg #[.int .i64 x.1, .int .i64 x.2], .agg #[.int .i64 y.1, .int .i64 y.2]] w fun e w' => e = .returned (.int .i64 (edgeCmp x y)) ∧ Grew w w' := by
  obtain ⟨a, b⟩ := x
  obtain ⟨c, d⟩ := y
  have k0 : ((w.alloc (.cells #[.int .i64 a, .int .i64 b] 89)).alloc (.cells #[.int .i64 c, .int .i64 d] 89)).cell? ⟨w.heap.size, 0, none⟩ = some (.int .i64 a) := by go_simp
  have k1 : ((w.alloc (.cells #[.int .i64 a, .int .i64 b] 89)).alloc (.cells #[.int .i64 c, .int .i64 d] 89)).cell? ⟨w.heap.size, 1, none⟩ = some (.int .i64 b) := by go_simp
  have k2 : ((w.alloc (.cells #[.int .i64 a, .int .i64 b] 89)).alloc (.cells #[.int .i64 c, .int .i64 d] 89)).cell? ⟨w.heap.size + 1, 0, none⟩ = some (.int .i64 c) := by go_simp
  have k3 : ((w.alloc (.cells #[.int .i64 a, .int .i64 b] 89)).alloc (.cells #[.int .i64 c, .int .i64 d] 89)).cell? ⟨w.heap.size + 1, 1, none⟩ = some (.int .i64 d) := by go_simp
  have hG := ((Grew.refl w).alloc (.cells #[.int .i64 a, .int .i64 b] 89)).alloc (.cells #[.int .i64 c, .int .i64 d] 89)
  simp only at *
  go_enter Try.func73, Try.ntmps73
  go_upto_region 1 with fail
  generalize (w.alloc _).alloc _ = W at *
  go_region_held3 (fun w' => w'.cell? ⟨w.heap.size, 0, none⟩ = some (.int .i64 a) ∧ w'.cell? ⟨w.heap.size, 1, none⟩ = some (.int .i64 b) ∧ w'.cell? ⟨w.heap.size + 1, 0, none⟩ = some (.int .i64 c) ∧ w'.cell? ⟨w.heap.size + 1, 1, none⟩ = some (.int .i64 d)) (first | exact ⟨k0, k1, k2, k3⟩ | go_keep)
    (first
      | (go_at_call 82; refine (compare_int _ _ _).mono ?_; rintro e' w4 ⟨rfl, rfl⟩)
      | (go_at_call 81; refine (or_int (cmp3 a c) (cmp3 b d) _ _ (by go_simp) (by go_simp)).mono ?_; rintro e' w4 ⟨rfl, rfl⟩))
  all_goals
    go_wp2_with fail
    go_ret
    exact ⟨rfl, (by first | exact hG.alloc _ | exact (hG.alloc _).drew | exact (hG.alloc _).drewN _ | exact (hG.drew).alloc _ | exact (hG.drewN _).alloc _ | exact ((hG.drewN _).alloc _).drewN _)⟩
end Go.Proofs.Ythigebbihclbiaa

/- Edges of a graph: how they lie, how they compare; slices.Clone at them. -/
namespace Go.Proofs.Ythigebbihclbiaa
open Go.RowKit

def edgeCells (x : Int × Int) : List Value := [.int .i64 x.1, .int .i64 x.2]
namespace Kd
def edge : Kd (Int × Int) := pair int int
theorem K_edge {w : World} {F : Nat → Prop} {x : Int × Int} {cs : List Value} : edge.K w F x cs ↔ cs = edgeCells x := by
  constructor
  · rintro ⟨_, _, rfl, ⟨rfl, _⟩, rfl, _⟩
    rfl
  · rintro rfl
    exact ⟨[_], [_], rfl, ⟨rfl, trivial⟩, rfl, trivial⟩
end Kd
theorem edge_at {w : World} {F : Nat → Prop} {A : Option Addr} {xs : List (Int × Int)} (h : Kd.edge.Row w F A xs) (k : Nat) (hk : k < xs.length) :
    ∃ b o, A = some ⟨b, o, none⟩ ∧ F b ∧ b < w.heap.size ∧ w.cell? ⟨b, o + k * 2, none⟩ = some (.int .i64 xs[k].1) ∧ w.cell? ⟨b, o + k * 2 + 1, none⟩ = some (.int .i64 xs[k].2) := by
  obtain ⟨b, o, cs, hA, hb, hK, hc⟩ := h k hk
  obtain rfl := Kd.K_edge.1 hK
  exact ⟨b, o, hA, hb, World.block_lt_of_cell? w _ (hc 0 _ rfl), hc 0 _ rfl, hc 1 _ rfl⟩
theorem flat_get {α : Type} {f : α → List Value} {k : Nat} (hk : ∀ x, (f x).length = k) : ∀ (xs : List α) (j : Nat), j < xs.length * k → ∃ (i r : Nat) (hi : i < xs.length), r < k ∧ j = i * k + r ∧ (xs.flatMap f)[j]? = (f xs[i])[r]?
  | [], j, h => absurd h (by simp)
  | x :: xs, j, h => by
    rw [List.flatMap_cons]
    by_cases hj : j < k
    · exact ⟨0, j, by simp, hj, by simp, by rw [List.getElem?_append_left (by rw [hk]; exact hj)]; rfl⟩
    · obtain ⟨i, r, hi, hr, e, h2⟩ := flat_get hk xs (j - k) (by rw [List.length_cons, Nat.add_mul] at h; omega)
      refine ⟨i + 1, r, by simpa using hi, hr, by rw [Nat.add_mul]; omega, ?_⟩
      rw [List.getElem?_append_right (by rw [hk]; omega), hk, h2]
      rfl
theorem flat_len {α : Type} {f : α → List Value} {k : Nat} (hk : ∀ x, (f x).length = k) : ∀ xs : List α, (xs.flatMap f).length = xs.length * k
  | [] => by simp
  | x :: xs => by rw [List.flatMap_cons, List.length_append, hk, flat_len hk xs, List.length_cons, Nat.add_mul]; omega
theorem edge_news {w : World} {F : Nat → Prop} {ad : Addr} {xs : List (Int × Int)} (h : Kd.edge.Row w F (some ad) xs) (o : Obj) :
    ∀ j u, (xs.flatMap edgeCells)[j]? = some u → (w.alloc o).cell? (ad.add j) = some u := by
  intro j u hj
  have hjl := (List.getElem?_eq_some_iff.1 hj).1
  rw [flat_len (k := 2) (fun _ => rfl)] at hjl
  obtain ⟨i, r, hi, hr, rfl, h2⟩ := flat_get (f := edgeCells) (k := 2) (fun _ => rfl) xs j hjl
  obtain ⟨b, o', cs, hA, _, hK, hc⟩ := h i hi
  obtain rfl := Kd.K_edge.1 hK
  obtain rfl := Option.some.inj hA
  rw [h2] at hj
  have := hc r u hj
  have ha : (⟨b, o', none⟩ : Addr).add (i * 2 + r) = ⟨b, o' + (i * 2 + r), none⟩ := by unfold Addr.add; split <;> simp_all
  rw [ha]
  exact Lib.cell?_alloc_some _ this
theorem edge_info : (Try.prog.info? 89).map (fun i => (i.zero, i.size, i.bytes)) = some (some (.agg #[.int .i64 0, .int .i64 0]), 2, 16) := by kernel_rfl

set_option maxRecDepth 100000 in
set_option maxHeartbeats 1000000 in
theorem clone_edge (v : Value) (F : Nat → Prop) (xs : List (Int × Int)) (w : World) (h : Kd.edge.Sl w F xs v) (hl : xs.length ≤ 1000000) :
    Calls Try.prog 74 #[v] w fun e w' => ∃ v', e = .returned v' ∧ w'.ownsRow w.heap.size 89 2 v' xs.length (xs.flatMap edgeCells) ∧ Below w.heap.size w w' := by
  obtain ⟨A, c, rfl, hc1, hc2, hr⟩ := h
  have q22 : ∀ (w : World) (a : Option Addr) (n c n' c' : Nat), (binOp .eql 68 (.slice a n c) (.slice none n' c')).run Try.prog w = .ok (.bool a.isNone) w := fun w a n c n' c' => Lib.run_eql_slice_nil w _ _ a n c n' c' Try.underlying68
  cases A with
  | none =>
    obtain rfl := Kd.row_none hr
    clear hr
    go_enter Try.func74, Try.ntmps74
    go_wp2_with fail
    go_ret
    exact ⟨_, rfl, World.ownsRow_nil _ _ _ _, Below.refl _ _⟩
  | some ad =>
    have HN := Lib.hid (edge_news hr (.cells #[] 89))
    obtain ⟨i0, hi, hzz⟩ := Option.map_eq_some_iff.1 edge_info
    simp only [Prod.mk.injEq] at hzz
    obtain ⟨hz0, hz1, hz2⟩ := hzz
    clear hr
    go_enter Try.func74, Try.ntmps74
    go_wp2_with (at_builtin; refine wpList_append_own_at _ rfl _ _ 68 rfl w.heap.size 89 i0 _ 2 16 Try.underlying68 hi hz0 hz1 hz2 rfl (by decide) _ _ _ rfl (World.ownsRow_made w #[] 0 (Nat.le_refl _) (Nat.zero_le _) (by simp)) ad xs.length c (xs.flatMap edgeCells) rfl ?qc1 ?qc2 ?qc3 ?qc4 ?qc5 ?qc6 ?_)
    case qc1 => exact flat_len (f := edgeCells) (k := 2) (fun _ => rfl) xs
    case qc2 => exact HN.out
    case qc3 => intro u hu; obtain ⟨x, _, hx⟩ := List.mem_flatMap.1 hu; simp [edgeCells] at hx; rcases hx with rfl | rfl <;> rfl
    case qc4 => simp only [maxLen]; omega
    case qc5 => omega
    case qc6 => simp
    intro v' w1 hown hgrow hnil _
    go_wp2
    go_ret
    refine ⟨v', rfl, by simpa using hown, ?_⟩
    exact ((Below.refl _ w).alloc (Nat.le_refl _) _).grown hgrow (by simp) (by intro k hk; simp [Value.ownBlock] at hk; omega)

/-! #### the order of edges -/
def edgeLt (x y : Int × Int) : Prop := x.1 < y.1 ∨ (x.1 = y.1 ∧ x.2 < y.2)
theorem edgeCmp_neg (x y : Int × Int) : edgeCmp x y < 0 ↔ edgeLt x y := by
  unfold edgeCmp or2 cmp3 edgeLt
  constructor
  · intro h
    split at h <;> split at h <;> (try split at h) <;> (try split at h) <;> omega
  · intro h
    split <;> split <;> (try split) <;> (try split) <;> omega
end Go.Proofs.Ythigebbihclbiaa

/- slices.Compact at edges, no two neighbours alike. -/
namespace Go.Proofs.Ythigebbihclbiaa
open Go.RowKit
set_option maxRecDepth 100000

theorem fields_edge : (Try.prog.fieldsOf 89).toList.map (fun f => (f.type, f.offset, f.name == "_")) = [(3, 0, false), (3, 1, false)] := by kernel_rfl
theorem eql_edge (w : World) (a b c d : Int) : (binOp .eql 89 (.agg #[.int .i64 a, .int .i64 b]) (.agg #[.int .i64 c, .int .i64 d])).run Try.prog w = .ok (.bool (a == c && b == d)) w := by
  have hf := fields_edge
  generalize hfs : (Try.prog.fieldsOf 89).toList = fs at hf
  rw [run_eql_struct, run_equalIn_struct w _ _ _ _ (by kernel_rfl) (by kernel_rfl), hfs]
  match fs, hf with
  | [f0, f1], hf =>
    simp only [List.map_cons, List.map_nil, List.cons.injEq, Prod.mk.injEq, and_true, beq_eq_false_iff_ne] at hf
    obtain ⟨⟨t0, o0, n0⟩, t1, o1, n1⟩ := hf
    have hu := Try.underlying3
    have hz := Try.sizeOf3
    have ha := Try.isAgg3
    rcases hac : (a == c) with _ | _ <;> rcases hbd : (b == d) with _ | _ <;>
      simp [Op.eqFields, Sem.run_bind, t0, t1, o0, o1, n0, n1, part, hz, ha, run_equalIn_int w 9998 3 .i64 .i64 _ _ hu, hac, hbd, Result.andThen]

/-- Each edge is less than the next one. -/
def Rising (es : List (Int × Int)) : Prop := ∀ i (h : i + 1 < es.length), edgeLt es[i] es[i+1]

set_option maxHeartbeats 1000000 in
theorem compact_edge (v : Value) (F : Nat → Prop) (es : List (Int × Int)) (w : World) (h : Kd.edge.Sl w F es v) (hr : Rising es) :
    Calls Try.prog 76 #[v] w fun e w' => e = .returned v ∧ Drawn w w' := by
  obtain ⟨A, c, rfl, hc1, hc2, hrow⟩ := h
  have heq := eql_edge
  have HR := Lib.hid hr
  clear hr
  by_cases hl : es.length < 2
  · have g1 : decide ((es.length : Int) < 2) = true := decide_eq_true (by omega)
    go_enter Try.func76, Try.ntmps76
    go_wp2_with fail
    go_ret
    exact ⟨rfl, Drawn.refl _⟩
  have g1 : decide ((es.length : Int) < 2) = false := decide_eq_false (by omega)
  go_enter Try.func76, Try.ntmps76
  go_wp2_with fail
  go_loopw [3] (fun i3 wr => ∃ k : Nat, 1 ≤ k ∧ k ≤ es.length ∧ i3 = .int .i64 k ∧ Drawn w wr) (fun i3 _ => es.length - (intOf i3).toNat)
  case atStart => exact ⟨1, by omega, by omega, rfl, Drawn.refl _⟩
  case round =>
    obtain ⟨k, hk1, hk, rfl, hd⟩ := hrel
    by_cases hlt : k < es.length
    · have hK := hrow.keep (hd.agree _)
      have hL := HR.out (k-1) (by omega)
      simp only [show k - 1 + 1 = k by omega] at hL
      obtain ⟨b, o, rfl, _, _, c0, c1⟩ := edge_at hK k hlt
      obtain ⟨b', o', hA, _, _, d0, d1⟩ := edge_at hK (k-1) (by omega)
      obtain ⟨rfl, rfl⟩ : b = b' ∧ o = o' := by simpa using hA
      have hne : (es[k].1 == es[k-1].1 && es[k].2 == es[k-1].2) = false := by
        rcases hL with hL | ⟨_, hL⟩
        · have : (es[k].1 == es[k-1].1) = false := beq_eq_false_iff_ne.2 (by omega)
          rw [this, Bool.false_and]
        · have : (es[k].2 == es[k-1].2) = false := beq_eq_false_iff_ne.2 (by omega)
          rw [this, Bool.and_false]
      have hlt' : (k : Int) < (es.length : Int) := by omega
      have hk0 : 0 < k := hk1
      have hkl : k - 1 < es.length := by omega
      clear hL hA hK
      generalize es[k].1 = x1 at *
      generalize es[k].2 = x2 at *
      generalize es[k-1].1 = y1 at *
      generalize es[k-1].2 = y2 at *
      go_wp2_with fail
      go_quiet (fail)
      go_wp2_with fail
      go_roundw
      case rel => exact ⟨k+1, by omega, by omega, by go_num, hd.step _⟩
      case measure => simp [intOf]; omega
    · go_wp2_with fail
      go_ret
      exact ⟨rfl, hd⟩
end Go.Proofs.Ythigebbihclbiaa
