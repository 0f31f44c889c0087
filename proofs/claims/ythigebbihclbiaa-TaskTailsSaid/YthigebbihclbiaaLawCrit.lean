/- The law's critical. -/
import Derived.Test.YthigebbihclbiaaLawTail
import Derived.Test.YthigebbihclbiaaLawBef
import Derived.IntWalk
namespace Go.Proofs.Ythigebbihclbiaa
open Go.RowKit
set_option maxRecDepth 100000

theorem extend_zero (ts : List Task) (T : List Int) (last : Int) (p : List Int) : ∀ f, extendGo ts T f last 0 p = p
  | 0 => rfl
  | f + 1 => by
    rw [extendGo]
    have : (List.range ts.length).find? (critOk ts T last 0) = none := by
      rw [List.find?_range_eq_none]
      intro j _
      simp [critOk]
    rw [this]
/-- How far the chain has come. -/
structure Come (ts : List Task) (T : List Int) (R : List Int) (M left last : Int) (path : List Int) : Prop where
  run : ∃ f : Nat, left ≤ f ∧ R = extendGo ts T f last left path
  nonneg : 0 ≤ left
  len : (path.length : Int) + left ≤ M
  ends : (path.length = 0 ∧ last = -1) ∨ (0 ≤ last ∧ 0 < path.length ∧ path[path.length - 1]? = some last)
  more : left = 0 ∨ ∃ i : Int, 0 ≤ i ∧ i < (ts.length : Int) ∧ geti T i = left ∧ (last < 0 ∨ last ∈ afterOf ts i)
theorem Come.first {ts : List Task} {T R : List Int} {M left last : Int} {path : List Int} (h : Come ts T R M left last path) (hT : TailsAre ts T) (hd : ∀ i : Int, 0 ≤ i → i < (ts.length : Int) → 1 ≤ durOf ts i) (hl : 0 < left) :
    ∃ x : Nat, x < ts.length ∧ critOk ts T last left x = true ∧ (∀ j, j < x → critOk ts T last left j = false) ∧ Come ts T R M (left - durOf ts (x : Int)) (x : Int) (path ++ [(x : Int)]) := by
  obtain ⟨f, hf, hR⟩ := h.run
  obtain ⟨f, rfl⟩ : ∃ g, f = g + 1 := ⟨f - 1, by omega⟩
  rw [extendGo] at hR
  cases hx : (List.range ts.length).find? (critOk ts T last left) with
  | none =>
    exfalso
    rw [List.find?_range_eq_none] at hx
    rcases h.more with h0 | ⟨i, i0, i1, i2, i3⟩
    · omega
    · have := hx i.toNat (by omega)
      unfold critOk at this
      rw [show ((i.toNat : Nat) : Int) = i by omega, decide_eq_true hl, decide_eq_true i2] at this
      rcases i3 with i3 | i3 <;> simp [i3] at this
  | some x =>
    rw [hx] at hR
    rw [List.find?_range_eq_some] at hx
    obtain ⟨x1, x2, x3⟩ := hx
    have hxl : x < ts.length := by simpa using x2
    have hc := x1
    unfold critOk at hc
    simp only [Bool.and_eq_true, Bool.or_eq_true, decide_eq_true_eq, List.contains_iff_mem] at hc
    obtain ⟨c1, c2, c3⟩ := hc
    have hdx := hd x (by omega) (by omega)
    have hown := hT.own x (by omega) (by omega)
    refine ⟨x, hxl, x1, fun j hj => by have := x3 j hj; simpa using this, ⟨f, by omega, hR⟩, by omega, by have := h.len; simp; omega, .inr ⟨by omega, by simp, by simp⟩, ?_⟩
    rcases hT.hit x (by omega) (by omega) with e | ⟨j, j0, j1, ja, e⟩
    · exact .inl (by omega)
    · exact .inr ⟨j, j0, j1, by omega, .inr ja⟩

set_option maxHeartbeats 4000000 in
theorem law_critical (s : Shop) (F : Nat → Prop) (v : Value) (w : World) (h : ShopAt w F s v) (hc : checkOf s = 0) :
    Calls Try.prog 18 #[v] w fun e w' => ∃ u, e = .returned (.tuple #[.int .i64 (critLen s), u]) ∧ Kd.int.Sl w' (fun b => w.heap.size ≤ b) (critPath s) u ∧ Below w.heap.size w w' := by
  obtain ⟨l1, l2, Z, hnl, _⟩ := zero_of_check s hc
  have hcf := crit_facts s hc
  obtain ⟨v1, v2, rfl, h1, h2⟩ := h
  have hS := Lib.hid (show ∀ W, Below w.heap.size w W → ShopAt W F s (.agg #[v1, v2]) from fun W hW => ⟨v1, v2, rfl, h1.keep (Agree.below hW), h2.keep (Agree.below hW)⟩)
  have HT := Lib.hid (fun W hW k hk => law_tail s hc k hk F _ W (hS.out W hW))
  have hdi : ∀ i : Int, 0 ≤ i → i < (s.tasks.length : Int) → 1 ≤ durOf s.tasks i := fun i i0 i1 => by
    obtain ⟨j, rfl⟩ := Int.eq_ofNat_of_zero_le i0
    rw [durOf_lt (show j < s.tasks.length by omega)]
    exact (hcf.dur _ (List.getElem_mem _)).1
  have hstart : Come s.tasks (tailsPub s) (critPath s) (critLen s) (critLen s) (-1) [] := by
    have hbd := hcf.bd
    by_cases hn : s.tasks.length = 0
    · have e1 : critLen s = 0 := if_neg (fun h => h.2 hn)
      have e2 : critPath s = [] := if_neg (fun h => h.2 hn)
      rw [e1, e2]
      exact ⟨⟨0, by omega, rfl⟩, by omega, by simp, .inl ⟨rfl, rfl⟩, .inl rfl⟩
    · have e0 : tailsPub s = tailsOf s.tasks := if_pos hc
      have e1 : critLen s = maxOf (tailsOf s.tasks) := if_pos ⟨hc, hn⟩
      have e2 : critPath s = extendGo s.tasks (tailsOf s.tasks) 100000000 (-1) (maxOf (tailsOf s.tasks)) [] := if_pos ⟨hc, hn⟩
      have hTl : (tailsOf s.tasks).length = s.tasks.length := by rw [← e0]; exact hcf.len
      have hne : tailsOf s.tasks ≠ [] := fun h => by rw [h] at hTl; exact hn hTl.symm
      obtain ⟨i, hi, hv⟩ := List.getElem_of_mem (maxOf_facts hne).2
      rw [e1] at hbd
      rw [e0, e2, e1]
      exact ⟨⟨100000000, by omega, rfl⟩, by omega, by simp, .inl ⟨rfl, rfl⟩, .inr ⟨i, by omega, by omega, by rw [← hv]; simp [geti, hi], .inl (by omega)⟩⟩
  have hB := Boxed.start w v1 v2 25
  obtain ⟨A, c, rfl, hc1, hc2, hr⟩ := h1
  obtain ⟨B, d, rfl, _⟩ := h2
  have hTlen := hcf.len
  have HMO := Lib.hid hcf.most
  have HMB := Lib.hid (fun k => (foldl_max ((tailsPub s).take k) 0).1.1)
  have HGB := Lib.hid (fun k => geti_bd hcf k)
  have HFI := Lib.hid (fun M left last path (h : Come s.tasks (tailsPub s) (critPath s) M left last path) hl => h.first hcf.are hdi hl)
  have HDU := Lib.hid hcf.dur
  have hbd1 : 0 ≤ critLen s := hcf.bd.1
  have hbd2 : critLen s ≤ 25165824 := hcf.bd.2
  have HR0 := Lib.hid hr
  clear hc Z hnl hcf hdi
  generalize tailsPub s = T at *
  generalize critLen s = M at *
  generalize critPath s = R at *
  have HST := Lib.hid hstart
  clear hstart
  go_enter Try.func18, Try.ntmps18
  go_upto_region 1 with fail
  generalize w.alloc _ = W at *
  go_wp2_with fail
  go_loopw [4, 5] (fun i4 i5 wr => ∃ k : Nat, k ≤ s.tasks.length ∧ i5 = .int .i64 k ∧ i4 = .int .i64 ((T.take k).foldl max 0) ∧ Boxed w wr (.slice A s.tasks.length c) (.slice B s.stations.length d)) (fun _ i5 _ => s.tasks.length - (intOf i5).toNat)
  case atStart => exact ⟨0, Nat.zero_le _, rfl, rfl, hB⟩
  case round =>
    clear hB hr
    obtain ⟨k, hk, rfl, rfl, hB⟩ := hrel
    have k0 := hB.c0
    have k1 := hB.c1
    by_cases hlt : k < s.tasks.length
    · have hlt' : (k : Int) < (s.tasks.length : Int) := by omega
      have hlt2 : k < T.length := by omega
      have HTK : Hid ((T.take (k+1)).foldl max 0 = max ((T.take k).foldl max 0) (geti T (k : Int))) := Lib.hid (by rw [take_succ_at T k hlt2, List.foldl_append]; simp [geti, hlt2])
      have hct := HT.out wr hB.below k hlt
      generalize (T.take k).foldl max 0 = m at *
      generalize geti T (k : Int) = x at *
      go_wp2_with fail
      refine hct.mono ?_
      rintro e w5 ⟨rfl, hb5⟩
      have hB5 := hB.later hb5
      go_wp2_with fail
      go_roundw
      case rel => exact ⟨k+1, by omega, by go_num, by rw [HTK.out], hB5⟩
      case measure => simp [intOf]; omega
    · have hmm : (T.take k).foldl max 0 = M := by rw [List.take_of_length_le (by omega), HMO.out]
      rw [hmm]
      clear hmm
      go_wp2_with fail
      go_loopw [6, 7, 8] (fun i6 i7 _ wr => ∃ (left last : Int) (path : List Int), i7 = .int .i64 left ∧ Boxed w wr (.slice A s.tasks.length c) (.slice B s.stations.length d) ∧ Kd.int.Own 3 wr (w.heap.size + 1) Kd.NoB i6 path ∧ Hid (Come s.tasks T R M left last path)) (fun _ i7 _ _ => (intOf i7).toNat)
      case atStart => exact ⟨M, -1, [], rfl, hB, Kd.Own.nil _ _ _ _ _, Lib.hid HST.out⟩
      case round =>
        clear hB k0 k1
        obtain ⟨left, last, path, rfl, hB, ho, HC⟩ := hrel
        obtain ⟨pA, pc, rfl, _⟩ := ho.slice
        have hnn := HC.out.nonneg
        have hpl := HC.out.len
        by_cases hl0 : 0 < left
        · obtain ⟨x, hx, hx1, hx2, hx3⟩ := HFI.out M left last path HC.out hl0
          have gl : decide (left > 0) = true := decide_eq_true hl0
          have HX1 := Lib.hid hx1
          have HX2 := Lib.hid hx2
          have HX3 := Lib.hid hx3
          have hlast := HC.out.ends
          clear hx1 hx2 hx3
          obtain ⟨W2, rfl⟩ : ∃ W2 : World, W2 = wr := ⟨_, rfl⟩
          go_wp2_with fail
          go_loopw [6, 7, 8] (fun i6 i7 i8 wx => ∃ k : Nat, k ≤ x ∧ i8 = .int .i64 k ∧ i6 = .slice pA path.length pc ∧ i7 = .int .i64 left ∧ Boxed w wx (.slice A s.tasks.length c) (.slice B s.stations.length d) ∧ Below W2.heap.size W2 wx) (fun _ _ i8 _ => x + 1 - (intOf i8).toNat)
          case atStart => exact ⟨0, Nat.zero_le _, rfl, rfl, rfl, hB, Below.refl _ _⟩
          case round =>
            clear hB
            obtain ⟨k, hkx, rfl, rfl, rfl, hB, hb2⟩ := hrel
            have hk : k < s.tasks.length := by omega
            have hkn' : (k : Int) < (s.tasks.length : Int) := by omega
            have h0k : (0 : Int) ≤ (k : Int) := by omega
            have k0 := hB.c0
            have k1 := hB.c1
            have hct := fun W' h => HT.out W' h k hk
            have HQ : Hid (critOk s.tasks T last left k = decide (k = x)) := Lib.hid (by
              by_cases e : k = x
              · subst e; rw [HX1.out]; simp
              · rw [HX2.out k (by omega)]; simp [e])
            have HQ2 := Lib.hid (show critOk s.tasks T last left k = (decide (0 < left) && (decide (geti T (k : Int) = left) && (decide (last < 0) || (afterOf s.tasks (k : Int)).contains last))) from rfl)
            obtain ⟨b, o, A1, a1, rfl, _, hl1, _, cw1, _, cw3, hK⟩ := task_at HR0.out k hk
            have hA := Kd.K_after hK
            rw [← afterOf_lt hk] at hA cw3
            have c3 := (hB.below.cell (p := ⟨b, o + k * 4 + 3, none⟩) hl1).trans cw3
            obtain ⟨u1, u2⟩ := HDU.out _ (List.getElem_mem hk)
            have hdd : durOf s.tasks (k : Int) = s.tasks[k].dur := durOf_lt hk
            clear hK cw3
            generalize critOk s.tasks T last left k = r at *
            generalize geti T (k : Int) = tk at *
            generalize afterOf s.tasks (k : Int) = al at *
            generalize s.tasks[k].dur = du at *
            go_upto_region 12 with fail
            go_cut [55] (fun s55 wx => s55 = .bool (decide (k = x)) ∧ Boxed w wx (.slice (some ⟨b, o, none⟩) s.tasks.length c) (.slice B s.stations.length d) ∧ Below W2.heap.size W2 wx)
            case first =>
              by_cases hT : tk = left
              · have gT : (tk == left) = true := by simpa using hT
                rcases hlast with ⟨p1, p2⟩ | ⟨p1, p2, p3⟩
                · have hr1 : r = true := by rw [HQ2.out, decide_eq_true hl0, decide_eq_true hT, decide_eq_true (show last < 0 by omega)]; rfl
                  subst hr1
                  have gp : ((path.length : Int) == 0) = true := by rw [p1]; rfl
                  clear p1
                  refine wp_region_held_drew (S := fun w' => w'.cell? ⟨w.heap.size, 0, none⟩ = some (.slice (some ⟨b, o, none⟩) s.tasks.length c) ∧ w'.cell? ⟨w.heap.size, 1, none⟩ = some (.slice B s.stations.length d)) (by kernel_rfl) ⟨k0, k1⟩ (fun hHeld => ?_)
                  refine wpAnyH_take (i := 1) (v := ?_) rfl (by kernel_rfl) (by kernel_rfl) (by kernel_rfl) (fun _ _ _ h => h) (Or.inl ⟨by rfl, ?_⟩) (by assumption) ?_; rotate_left 1; focus (intro w' hSw; (try dsimp only at hSw); go_simp; (try with_reducible rfl)); (try simp only [List.getElem_toArray, List.getElem_cons_succ, List.getElem_cons_zero, Act.put, List.setIfInBounds_toArray, List.set_cons_zero, List.set_cons_succ])
                  refine wpAnyH_take (i := 3) (v := ?_) rfl (by kernel_rfl) (by kernel_rfl) (by kernel_rfl) (fun _ _ _ h => h) (Or.inl ⟨by rfl, ?_⟩) (by assumption) ?_; rotate_left 1; focus (intro w' hSw; (try dsimp only at hSw); go_simp; (try with_reducible rfl)); (try simp only [List.getElem_toArray, List.getElem_cons_succ, List.getElem_cons_zero, Act.put, List.setIfInBounds_toArray, List.set_cons_zero, List.set_cons_succ])
                  refine wpAnyH_take (i := 0) (v := ?_) rfl (by kernel_rfl) (by kernel_rfl) (by kernel_rfl) (fun _ _ _ h => h) (Or.inl ⟨by rfl, ?_⟩) (by assumption) ?_; rotate_left 1; focus (intro w' hSw; (try dsimp only at hSw); go_simp; (try with_reducible rfl)); (try simp only [List.getElem_toArray, List.getElem_cons_succ, List.getElem_cons_zero, Act.put, List.setIfInBounds_toArray, List.set_cons_zero, List.set_cons_succ])
                  refine wpAnyH_ready (rs := [2]) (by kernel_rfl) (by simp) ?_
                  refine AllReadyH.cons rfl (fun K hK => ?_) AllReadyH.nil
                  go_simp
                  refine (hct _ hB.below.drew).mono ?_
                  rintro e' w8 ⟨rfl, hb8⟩
                  have hb9 : Below wr.heap.size wr w8 := ((Below.refl _ wr).drew).trans hb8
                  go_wp2_with fail
                  refine hK.out _ _ ⟨(hB.later hb9).c0, (hB.later hb9).c1⟩ (fun hHeld => ?_)
                  clear hK K; (try simp only [List.getElem_toArray, List.getElem_cons_succ, List.getElem_cons_zero, Act.put, List.setIfInBounds_toArray, List.set_cons_zero, List.set_cons_succ])
                  refine wpAnyH_take (i := 4) (v := ?_) rfl (by kernel_rfl) (by kernel_rfl) (by kernel_rfl) (fun _ _ _ h => h) (Or.inl ⟨by rfl, ?_⟩) (by assumption) ?_; rotate_left 1; focus (intro w' hSw; (try dsimp only at hSw); go_simp; (try with_reducible rfl)); (try simp only [List.getElem_toArray, List.getElem_cons_succ, List.getElem_cons_zero, Act.put, List.setIfInBounds_toArray, List.set_cons_zero, List.set_cons_succ])
                  refine wpAnyH_take (i := 5) (v := ?_) rfl (by kernel_rfl) (by kernel_rfl) (by kernel_rfl) (fun _ _ _ h => h) (Or.inl ⟨by rfl, ?_⟩) (by assumption) ?_; rotate_left 1; focus (intro w' hSw; (try dsimp only at hSw); go_simp; (try with_reducible rfl)); (try simp only [List.getElem_toArray, List.getElem_cons_succ, List.getElem_cons_zero, Act.put, List.setIfInBounds_toArray, List.set_cons_zero, List.set_cons_succ])
                  refine wpAnyH_take (i := 6) (v := ?_) rfl (by kernel_rfl) (by kernel_rfl) (by kernel_rfl) (fun _ _ _ h => h) (Or.inl ⟨by rfl, ?_⟩) (by assumption) ?_; rotate_left 1; focus (intro w' hSw; (try dsimp only at hSw); go_simp; (try with_reducible rfl)); (try simp only [List.getElem_toArray, List.getElem_cons_succ, List.getElem_cons_zero, Act.put, List.setIfInBounds_toArray, List.set_cons_zero, List.set_cons_succ])
                  refine wpAnyH_take (i := 7) (v := ?_) rfl (by kernel_rfl) (by kernel_rfl) (by kernel_rfl) (fun _ _ _ h => h) (Or.inl ⟨by rfl, ?_⟩) (by assumption) ?_; rotate_left 1; focus (intro w' hSw; (try dsimp only at hSw); go_simp; (try with_reducible rfl)); (try simp only [List.getElem_toArray, List.getElem_cons_succ, List.getElem_cons_zero, Act.put, List.setIfInBounds_toArray, List.set_cons_zero, List.set_cons_succ])
                  refine wpAnyH_take (i := 8) (v := ?_) rfl (by kernel_rfl) (by kernel_rfl) (by kernel_rfl) (fun _ _ _ h => h) (Or.inl ⟨by rfl, ?_⟩) (by assumption) ?_; rotate_left 1; focus (intro w' hSw; (try dsimp only at hSw); go_simp; (try with_reducible rfl)); (try simp only [List.getElem_toArray, List.getElem_cons_succ, List.getElem_cons_zero, Act.put, List.setIfInBounds_toArray, List.set_cons_zero, List.set_cons_succ])
                  refine wpAnyH_take (i := 9) (v := ?_) rfl (by kernel_rfl) (by kernel_rfl) (by kernel_rfl) (fun _ _ _ h => h) (Or.inl ⟨by rfl, ?_⟩) (by assumption) ?_; rotate_left 1; focus (intro w' hSw; (try dsimp only at hSw); go_simp; (try with_reducible rfl)); (try simp only [List.getElem_toArray, List.getElem_cons_succ, List.getElem_cons_zero, Act.put, List.setIfInBounds_toArray, List.set_cons_zero, List.set_cons_succ])
                  refine wpAnyH_take (i := 10) (v := undef) rfl (by kernel_rfl) (by kernel_rfl) (by kernel_rfl) (fun _ _ _ h => h) (Or.inr ⟨by rfl, rfl⟩) (by assumption) ?_; (try simp only [List.getElem_toArray, List.getElem_cons_succ, List.getElem_cons_zero, Act.put, List.setIfInBounds_toArray, List.set_cons_zero, List.set_cons_succ])
                  refine wpAnyH_take (i := 11) (v := undef) rfl (by kernel_rfl) (by kernel_rfl) (by kernel_rfl) (fun _ _ _ h => h) (Or.inr ⟨by rfl, rfl⟩) (by assumption) ?_; (try simp only [List.getElem_toArray, List.getElem_cons_succ, List.getElem_cons_zero, Act.put, List.setIfInBounds_toArray, List.set_cons_zero, List.set_cons_succ])
                  refine wpAnyH_take (i := 12) (v := undef) rfl (by kernel_rfl) (by kernel_rfl) (by kernel_rfl) (fun _ _ _ h => h) (Or.inr ⟨by rfl, rfl⟩) (by assumption) ?_; (try simp only [List.getElem_toArray, List.getElem_cons_succ, List.getElem_cons_zero, Act.put, List.setIfInBounds_toArray, List.set_cons_zero, List.set_cons_succ])
                  refine wpAnyH_take (i := 13) (v := undef) rfl (by kernel_rfl) (by kernel_rfl) (by kernel_rfl) (fun _ _ _ h => h) (Or.inr ⟨by rfl, rfl⟩) (by assumption) ?_; (try simp only [List.getElem_toArray, List.getElem_cons_succ, List.getElem_cons_zero, Act.put, List.setIfInBounds_toArray, List.set_cons_zero, List.set_cons_succ])
                  refine wpAnyH_take (i := 14) (v := undef) rfl (by kernel_rfl) (by kernel_rfl) (by kernel_rfl) (fun _ _ _ h => h) (Or.inr ⟨by rfl, rfl⟩) (by assumption) ?_; (try simp only [List.getElem_toArray, List.getElem_cons_succ, List.getElem_cons_zero, Act.put, List.setIfInBounds_toArray, List.set_cons_zero, List.set_cons_succ])
                  refine wpAnyH_take (i := 15) (v := undef) rfl (by kernel_rfl) (by kernel_rfl) (by kernel_rfl) (fun _ _ _ h => h) (Or.inr ⟨by rfl, rfl⟩) (by assumption) ?_; (try simp only [List.getElem_toArray, List.getElem_cons_succ, List.getElem_cons_zero, Act.put, List.setIfInBounds_toArray, List.set_cons_zero, List.set_cons_succ])
                  refine wpAnyH_take (i := 16) (v := undef) rfl (by kernel_rfl) (by kernel_rfl) (by kernel_rfl) (fun _ _ _ h => h) (Or.inr ⟨by rfl, rfl⟩) (by assumption) ?_; (try simp only [List.getElem_toArray, List.getElem_cons_succ, List.getElem_cons_zero, Act.put, List.setIfInBounds_toArray, List.set_cons_zero, List.set_cons_succ])
                  refine wpAnyH_take (i := 17) (v := undef) rfl (by kernel_rfl) (by kernel_rfl) (by kernel_rfl) (fun _ _ _ h => h) (Or.inr ⟨by rfl, rfl⟩) (by assumption) ?_; (try simp only [List.getElem_toArray, List.getElem_cons_succ, List.getElem_cons_zero, Act.put, List.setIfInBounds_toArray, List.set_cons_zero, List.set_cons_succ])
                  refine wpAnyH_take (i := 18) (v := undef) rfl (by kernel_rfl) (by kernel_rfl) (by kernel_rfl) (fun _ _ _ h => h) (Or.inr ⟨by rfl, rfl⟩) (by assumption) ?_; (try simp only [List.getElem_toArray, List.getElem_cons_succ, List.getElem_cons_zero, Act.put, List.setIfInBounds_toArray, List.set_cons_zero, List.set_cons_succ])
                  refine wpAnyH_take (i := 19) (v := undef) rfl (by kernel_rfl) (by kernel_rfl) (by kernel_rfl) (fun _ _ _ h => h) (Or.inr ⟨by rfl, rfl⟩) (by assumption) ?_; (try simp only [List.getElem_toArray, List.getElem_cons_succ, List.getElem_cons_zero, Act.put, List.setIfInBounds_toArray, List.set_cons_zero, List.set_cons_succ])
                  refine wpAnyH_take (i := 20) (v := undef) rfl (by kernel_rfl) (by kernel_rfl) (by kernel_rfl) (fun _ _ _ h => h) (Or.inr ⟨by rfl, rfl⟩) (by assumption) ?_; (try simp only [List.getElem_toArray, List.getElem_cons_succ, List.getElem_cons_zero, Act.put, List.setIfInBounds_toArray, List.set_cons_zero, List.set_cons_succ])
                  refine wpAnyH_take (i := 21) (v := undef) rfl (by kernel_rfl) (by kernel_rfl) (by kernel_rfl) (fun _ _ _ h => h) (Or.inr ⟨by rfl, rfl⟩) (by assumption) ?_; (try simp only [List.getElem_toArray, List.getElem_cons_succ, List.getElem_cons_zero, Act.put, List.setIfInBounds_toArray, List.set_cons_zero, List.set_cons_succ])
                  refine wpAnyH_take (i := 22) (v := undef) rfl (by kernel_rfl) (by kernel_rfl) (by kernel_rfl) (fun _ _ _ h => h) (Or.inr ⟨by rfl, rfl⟩) (by assumption) ?_; (try simp only [List.getElem_toArray, List.getElem_cons_succ, List.getElem_cons_zero, Act.put, List.setIfInBounds_toArray, List.set_cons_zero, List.set_cons_succ])
                  refine wpAnyH_take (i := 23) (v := ?_) rfl (by kernel_rfl) (by kernel_rfl) (by kernel_rfl) (fun _ _ _ h => h) (Or.inl ⟨by rfl, ?_⟩) (by assumption) ?_; rotate_left 1; focus (intro w' hSw; (try dsimp only at hSw); go_simp; (try with_reducible rfl)); (try simp only [List.getElem_toArray, List.getElem_cons_succ, List.getElem_cons_zero, Act.put, List.setIfInBounds_toArray, List.set_cons_zero, List.set_cons_succ])
                  refine wpAnyH_take (i := 24) (v := ?_) rfl (by kernel_rfl) (by kernel_rfl) (by kernel_rfl) (fun _ _ _ h => h) (Or.inl ⟨by rfl, ?_⟩) (by assumption) ?_; rotate_left 1; focus (intro w' hSw; (try dsimp only at hSw); go_simp; (try with_reducible rfl)); (try simp only [List.getElem_toArray, List.getElem_cons_succ, List.getElem_cons_zero, Act.put, List.setIfInBounds_toArray, List.set_cons_zero, List.set_cons_succ])
                  refine wpAnyH_done (by kernel_rfl) ?_ _
                  go_wp2_with fail
                  go_meet
                  exact ⟨by rw [← HQ.out], hB.later hb9, hb2.trans (hb9.mono hb2.size)⟩
                · have hr1 : r = al.contains last := by rw [HQ2.out, decide_eq_true hl0, decide_eq_true hT, decide_eq_false (show ¬ last < 0 by omega)]; rfl
                  have gp : ((path.length : Int) == 0) = false := by rw [beq_eq_false_iff_ne]; omega
                  have hwp : IntKind.i64.wrap ((path.length : Int) - 1) = (path.length : Int) - 1 := IntWalk.i64_in _ (by omega)
                  have gm5 : (1 : Int) ≤ (path.length : Int) := by omega
                  have gm6 : (path.length : Int) < (path.length : Int) + 1 := by omega
                  have ho2 := ho.below hb2
                  obtain ⟨g, gc, he, hgb, hgl⟩ := ho2.form p2
                  obtain ⟨rfl, _, rfl⟩ := Value.slice.inj he
                  clear he
                  obtain ⟨q1, q2⟩ := List.getElem?_eq_some_iff.1 p3
                  obtain ⟨e1, _, _⟩ := ho2.cell (path.length - 1) q1
                  rw [q2] at e1
                  have hA' := hA.keep (Agree.below hB.below)
                  have gm1 : ¬ path.length ≤ path.length - 1 := by omega
                  have gm2 : (0 : Int) ≤ (path.length : Int) - 1 := by omega
                  have gm3 : (path.length : Int) - 1 < (path.length : Int) := by omega
                  have gm4 : ((path.length : Int) - 1).toNat = path.length - 1 := by omega
                  clear hr1
                  (go_region_held3 (fun w' => w'.cell? ⟨w.heap.size, 0, none⟩ = some (.slice (some ⟨b, o, none⟩) s.tasks.length c) ∧ w'.cell? ⟨w.heap.size, 1, none⟩ = some (.slice B s.stations.length d) ∧ w'.cell? ⟨b, o + k * 4 + 3, none⟩ = some (.slice A1 al.length a1) ∧ w'.cell? ⟨g, path.length - 1, none⟩ = some (.int .i64 last)) (first | exact ⟨k0', k1', c3', e1'⟩ | exact ⟨k0, k1, c3, e1⟩ | go_keep)
                        (first
                          | (go_at_call 21; refine (hct _ (by first | exact hB.below | exact hB.below.drew | exact below_drewN hB.below _)).mono ?_; rintro e' w8 ⟨rfl, hb8⟩
                             have hb9 : Below wr.heap.size wr w8 := (by first | exact hb8 | exact ((Below.refl _ wr).drew).trans hb8 | exact (below_drewN (Below.refl _ wr) _).trans hb8)
                             have k0' := (hB.later hb9).c0; have k1' := (hB.later hb9).c1
                             have c3' := (hb9.cell (p := ⟨b, o + k * 4 + 3, none⟩) (show b < wr.heap.size from Nat.lt_of_lt_of_le hl1 hB.below.size)).trans c3
                             have e1' := (hb9.cell (p := ⟨g, path.length - 1, none⟩) (show g < wr.heap.size from hgl)).trans e1; clear hb8)
                          | (go_at_call 22; refine (law_has _ _ al last w8 (hA'.keep (Agree.below hb9))).mono ?_; rintro e' w10 ⟨rfl, rfl⟩)))
                  all_goals
                    go_wp2_with fail
                    go_meet
                    exact ⟨by rw [← HQ.out, HQ2.out, decide_eq_true hl0, decide_eq_true hT, decide_eq_false (show ¬ last < 0 by omega)]; simp, hB.later hb9, hb2.trans (hb9.mono hb2.size)⟩
              · have gT : (tk == left) = false := by simpa using hT
                have hr1 : r = false := by rw [HQ2.out, decide_eq_false hT]; simp
                subst hr1
                refine wp_region_held_drew (S := fun w' => w'.cell? ⟨w.heap.size, 0, none⟩ = some (.slice (some ⟨b, o, none⟩) s.tasks.length c) ∧ w'.cell? ⟨w.heap.size, 1, none⟩ = some (.slice B s.stations.length d)) (by kernel_rfl) ⟨k0, k1⟩ (fun hHeld => ?_)
                refine wpAnyH_take (i := 1) (v := ?_) rfl (by kernel_rfl) (by kernel_rfl) (by kernel_rfl) (fun _ _ _ h => h) (Or.inl ⟨by rfl, ?_⟩) (by assumption) ?_; rotate_left 1; focus (intro w' hSw; (try dsimp only at hSw); go_simp; (try with_reducible rfl)); (try simp only [List.getElem_toArray, List.getElem_cons_succ, List.getElem_cons_zero, Act.put, List.setIfInBounds_toArray, List.set_cons_zero, List.set_cons_succ])
                refine wpAnyH_take (i := 3) (v := ?_) rfl (by kernel_rfl) (by kernel_rfl) (by kernel_rfl) (fun _ _ _ h => h) (Or.inl ⟨by rfl, ?_⟩) (by assumption) ?_; rotate_left 1; focus (intro w' hSw; (try dsimp only at hSw); go_simp; (try with_reducible rfl)); (try simp only [List.getElem_toArray, List.getElem_cons_succ, List.getElem_cons_zero, Act.put, List.setIfInBounds_toArray, List.set_cons_zero, List.set_cons_succ])
                refine wpAnyH_take (i := 0) (v := ?_) rfl (by kernel_rfl) (by kernel_rfl) (by kernel_rfl) (fun _ _ _ h => h) (Or.inl ⟨by rfl, ?_⟩) (by assumption) ?_; rotate_left 1; focus (intro w' hSw; (try dsimp only at hSw); go_simp; (try with_reducible rfl)); (try simp only [List.getElem_toArray, List.getElem_cons_succ, List.getElem_cons_zero, Act.put, List.setIfInBounds_toArray, List.set_cons_zero, List.set_cons_succ])
                refine wpAnyH_ready (rs := [2]) (by kernel_rfl) (by simp) ?_
                refine AllReadyH.cons rfl (fun K hK => ?_) AllReadyH.nil
                go_simp
                refine (hct _ hB.below.drew).mono ?_
                rintro e' w8 ⟨rfl, hb8⟩
                have hb9 : Below wr.heap.size wr w8 := ((Below.refl _ wr).drew).trans hb8
                go_wp2_with fail
                refine hK.out _ _ ⟨(hB.later hb9).c0, (hB.later hb9).c1⟩ (fun hHeld => ?_)
                clear hK K; (try simp only [List.getElem_toArray, List.getElem_cons_succ, List.getElem_cons_zero, Act.put, List.setIfInBounds_toArray, List.set_cons_zero, List.set_cons_succ])
                refine wpAnyH_take (i := 4) (v := ?_) rfl (by kernel_rfl) (by kernel_rfl) (by kernel_rfl) (fun _ _ _ h => h) (Or.inl ⟨by rfl, ?_⟩) (by assumption) ?_; rotate_left 1; focus (intro w' hSw; (try dsimp only at hSw); go_simp; (try with_reducible rfl)); (try simp only [List.getElem_toArray, List.getElem_cons_succ, List.getElem_cons_zero, Act.put, List.setIfInBounds_toArray, List.set_cons_zero, List.set_cons_succ])
                refine wpAnyH_take (i := 5) (v := ?_) rfl (by kernel_rfl) (by kernel_rfl) (by kernel_rfl) (fun _ _ _ h => h) (Or.inl ⟨by rfl, ?_⟩) (by assumption) ?_; rotate_left 1; focus (intro w' hSw; (try dsimp only at hSw); go_simp; (try with_reducible rfl)); (try simp only [List.getElem_toArray, List.getElem_cons_succ, List.getElem_cons_zero, Act.put, List.setIfInBounds_toArray, List.set_cons_zero, List.set_cons_succ])
                refine wpAnyH_take (i := 6) (v := undef) rfl (by kernel_rfl) (by kernel_rfl) (by kernel_rfl) (fun _ _ _ h => h) (Or.inr ⟨by rfl, rfl⟩) (by assumption) ?_; (try simp only [List.getElem_toArray, List.getElem_cons_succ, List.getElem_cons_zero, Act.put, List.setIfInBounds_toArray, List.set_cons_zero, List.set_cons_succ])
                refine wpAnyH_take (i := 7) (v := undef) rfl (by kernel_rfl) (by kernel_rfl) (by kernel_rfl) (fun _ _ _ h => h) (Or.inr ⟨by rfl, rfl⟩) (by assumption) ?_; (try simp only [List.getElem_toArray, List.getElem_cons_succ, List.getElem_cons_zero, Act.put, List.setIfInBounds_toArray, List.set_cons_zero, List.set_cons_succ])
                refine wpAnyH_take (i := 8) (v := undef) rfl (by kernel_rfl) (by kernel_rfl) (by kernel_rfl) (fun _ _ _ h => h) (Or.inr ⟨by rfl, rfl⟩) (by assumption) ?_; (try simp only [List.getElem_toArray, List.getElem_cons_succ, List.getElem_cons_zero, Act.put, List.setIfInBounds_toArray, List.set_cons_zero, List.set_cons_succ])
                refine wpAnyH_take (i := 9) (v := undef) rfl (by kernel_rfl) (by kernel_rfl) (by kernel_rfl) (fun _ _ _ h => h) (Or.inr ⟨by rfl, rfl⟩) (by assumption) ?_; (try simp only [List.getElem_toArray, List.getElem_cons_succ, List.getElem_cons_zero, Act.put, List.setIfInBounds_toArray, List.set_cons_zero, List.set_cons_succ])
                refine wpAnyH_take (i := 10) (v := undef) rfl (by kernel_rfl) (by kernel_rfl) (by kernel_rfl) (fun _ _ _ h => h) (Or.inr ⟨by rfl, rfl⟩) (by assumption) ?_; (try simp only [List.getElem_toArray, List.getElem_cons_succ, List.getElem_cons_zero, Act.put, List.setIfInBounds_toArray, List.set_cons_zero, List.set_cons_succ])
                refine wpAnyH_take (i := 11) (v := undef) rfl (by kernel_rfl) (by kernel_rfl) (by kernel_rfl) (fun _ _ _ h => h) (Or.inr ⟨by rfl, rfl⟩) (by assumption) ?_; (try simp only [List.getElem_toArray, List.getElem_cons_succ, List.getElem_cons_zero, Act.put, List.setIfInBounds_toArray, List.set_cons_zero, List.set_cons_succ])
                refine wpAnyH_take (i := 12) (v := undef) rfl (by kernel_rfl) (by kernel_rfl) (by kernel_rfl) (fun _ _ _ h => h) (Or.inr ⟨by rfl, rfl⟩) (by assumption) ?_; (try simp only [List.getElem_toArray, List.getElem_cons_succ, List.getElem_cons_zero, Act.put, List.setIfInBounds_toArray, List.set_cons_zero, List.set_cons_succ])
                refine wpAnyH_take (i := 13) (v := undef) rfl (by kernel_rfl) (by kernel_rfl) (by kernel_rfl) (fun _ _ _ h => h) (Or.inr ⟨by rfl, rfl⟩) (by assumption) ?_; (try simp only [List.getElem_toArray, List.getElem_cons_succ, List.getElem_cons_zero, Act.put, List.setIfInBounds_toArray, List.set_cons_zero, List.set_cons_succ])
                refine wpAnyH_take (i := 14) (v := undef) rfl (by kernel_rfl) (by kernel_rfl) (by kernel_rfl) (fun _ _ _ h => h) (Or.inr ⟨by rfl, rfl⟩) (by assumption) ?_; (try simp only [List.getElem_toArray, List.getElem_cons_succ, List.getElem_cons_zero, Act.put, List.setIfInBounds_toArray, List.set_cons_zero, List.set_cons_succ])
                refine wpAnyH_take (i := 15) (v := undef) rfl (by kernel_rfl) (by kernel_rfl) (by kernel_rfl) (fun _ _ _ h => h) (Or.inr ⟨by rfl, rfl⟩) (by assumption) ?_; (try simp only [List.getElem_toArray, List.getElem_cons_succ, List.getElem_cons_zero, Act.put, List.setIfInBounds_toArray, List.set_cons_zero, List.set_cons_succ])
                refine wpAnyH_take (i := 16) (v := undef) rfl (by kernel_rfl) (by kernel_rfl) (by kernel_rfl) (fun _ _ _ h => h) (Or.inr ⟨by rfl, rfl⟩) (by assumption) ?_; (try simp only [List.getElem_toArray, List.getElem_cons_succ, List.getElem_cons_zero, Act.put, List.setIfInBounds_toArray, List.set_cons_zero, List.set_cons_succ])
                refine wpAnyH_take (i := 17) (v := undef) rfl (by kernel_rfl) (by kernel_rfl) (by kernel_rfl) (fun _ _ _ h => h) (Or.inr ⟨by rfl, rfl⟩) (by assumption) ?_; (try simp only [List.getElem_toArray, List.getElem_cons_succ, List.getElem_cons_zero, Act.put, List.setIfInBounds_toArray, List.set_cons_zero, List.set_cons_succ])
                refine wpAnyH_take (i := 18) (v := undef) rfl (by kernel_rfl) (by kernel_rfl) (by kernel_rfl) (fun _ _ _ h => h) (Or.inr ⟨by rfl, rfl⟩) (by assumption) ?_; (try simp only [List.getElem_toArray, List.getElem_cons_succ, List.getElem_cons_zero, Act.put, List.setIfInBounds_toArray, List.set_cons_zero, List.set_cons_succ])
                refine wpAnyH_take (i := 19) (v := undef) rfl (by kernel_rfl) (by kernel_rfl) (by kernel_rfl) (fun _ _ _ h => h) (Or.inr ⟨by rfl, rfl⟩) (by assumption) ?_; (try simp only [List.getElem_toArray, List.getElem_cons_succ, List.getElem_cons_zero, Act.put, List.setIfInBounds_toArray, List.set_cons_zero, List.set_cons_succ])
                refine wpAnyH_take (i := 20) (v := undef) rfl (by kernel_rfl) (by kernel_rfl) (by kernel_rfl) (fun _ _ _ h => h) (Or.inr ⟨by rfl, rfl⟩) (by assumption) ?_; (try simp only [List.getElem_toArray, List.getElem_cons_succ, List.getElem_cons_zero, Act.put, List.setIfInBounds_toArray, List.set_cons_zero, List.set_cons_succ])
                refine wpAnyH_take (i := 21) (v := undef) rfl (by kernel_rfl) (by kernel_rfl) (by kernel_rfl) (fun _ _ _ h => h) (Or.inr ⟨by rfl, rfl⟩) (by assumption) ?_; (try simp only [List.getElem_toArray, List.getElem_cons_succ, List.getElem_cons_zero, Act.put, List.setIfInBounds_toArray, List.set_cons_zero, List.set_cons_succ])
                refine wpAnyH_take (i := 22) (v := undef) rfl (by kernel_rfl) (by kernel_rfl) (by kernel_rfl) (fun _ _ _ h => h) (Or.inr ⟨by rfl, rfl⟩) (by assumption) ?_; (try simp only [List.getElem_toArray, List.getElem_cons_succ, List.getElem_cons_zero, Act.put, List.setIfInBounds_toArray, List.set_cons_zero, List.set_cons_succ])
                refine wpAnyH_take (i := 23) (v := undef) rfl (by kernel_rfl) (by kernel_rfl) (by kernel_rfl) (fun _ _ _ h => h) (Or.inr ⟨by rfl, rfl⟩) (by assumption) ?_; (try simp only [List.getElem_toArray, List.getElem_cons_succ, List.getElem_cons_zero, Act.put, List.setIfInBounds_toArray, List.set_cons_zero, List.set_cons_succ])
                refine wpAnyH_take (i := 24) (v := ?_) rfl (by kernel_rfl) (by kernel_rfl) (by kernel_rfl) (fun _ _ _ h => h) (Or.inl ⟨by rfl, ?_⟩) (by assumption) ?_; rotate_left 1; focus (intro w' hSw; (try dsimp only at hSw); go_simp; (try with_reducible rfl)); (try simp only [List.getElem_toArray, List.getElem_cons_succ, List.getElem_cons_zero, Act.put, List.setIfInBounds_toArray, List.set_cons_zero, List.set_cons_succ])
                refine wpAnyH_done (by kernel_rfl) ?_ _
                go_wp2_with fail
                go_meet
                exact ⟨by rw [← HQ.out], hB.later hb9, hb2.trans (hb9.mono hb2.size)⟩
            case rest =>
              obtain ⟨rfl, hB4, hb4⟩ := hcut
              clear hB hb2 k0 k1 c3 hct hA
              have k0 := hB4.c0
              have k1 := hB4.c1
              have ho4 := ho.below hb4
              have hzb := hB4.size
              by_cases hkx2 : k = x
              · subst hkx2
                have hol : (path.length + 1) * 8 ≤ 140737488355328 := by omega
                have c1 := (hB4.below.cell (p := ⟨b, o + k * 4 + 1, none⟩) hl1).trans cw1
                have HX4 := Lib.hid HX3.out
                have hdu : Hid (durOf s.tasks (k : Int) = du) := Lib.hid hdd
                rw [show decide (k = k) = true by simp]
                clear HX3 hdd
                go_wp2_with (at_builtin; go_must (refine Kd.app_at Kd.int (w.heap.size + 1) Kd.NoB rfl (.tmp 56) (.tmp 58) 31 3 (.int .i64 0) 8 rfl Try.underlying31 int_info rfl (by decide) (by omega) (.slice pA path.length pc) path (k : Int) #[.int .i64 k] rfl _ rfl rfl ⟨rfl, trivial⟩ ho4 hzb (fun b hb => hb.elim) hol ?_; intro v1 w6 ho6 hg6 hat6; obtain ⟨nA, nc, rfl, _⟩ := ho6.slice; have hB6 := hB4.grown hg6 (fun j hj => by have := (ho4.lt j hj).1; omega); have k06 := hB6.c0; have k16 := hB6.c1; have c16 := (hB6.below.cell (p := ⟨b, o + k * 4 + 1, none⟩) hl1).trans cw1))
                go_roundw
                case rel =>
                  rw [List.length_append] at ho6
                  exact ⟨left - du, (k : Int), _, by first | rfl | go_num, hB6, ho6, Lib.hid (by have := HX4.out; rwa [hdu.out] at this)⟩
                case measure => simp [intOf]; omega
              · rw [decide_eq_false hkx2]
                go_wp2_with fail
                go_roundw
                case rel => exact ⟨k+1, by omega, by go_num, rfl, rfl, hB4, hb4⟩
                case measure => simp [intOf]; omega
        · have hl00 : left = 0 := by omega
          subst hl00
          obtain ⟨f, _, hR⟩ := HC.out.run
          rw [extend_zero] at hR
          subst hR
          go_wp2_with fail
          go_ret2
          exact ⟨_, rfl, ho.sl_to (by decide) (fun _ h => h.elim) (fun b hb _ => by omega), hB.below⟩
end Go.Proofs.Ythigebbihclbiaa
