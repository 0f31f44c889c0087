/- The law's before. -/
import Derived.Test.YthigebbihclbiaaBfsP
import Derived.Deep.QuietTactic
namespace Go.Proofs.Ythigebbihclbiaa
open Go.RowKit
set_option maxRecDepth 100000

theorem Boxed.grown {w wr wx : World} {a b : Value} {row : Option Nat} (h : Boxed w wr a b) (hg : wr.grownBy wx row) (hrow : ∀ j, row = some j → w.heap.size < j) : Boxed w wx a b :=
  have far : some w.heap.size ≠ row := fun e => by have := hrow _ e.symm; omega
  ⟨hg.cell h.c0 far, hg.cell h.c1 far, h.below.grown hg h.below.size (fun j hj => by have := hrow j hj; omega), Nat.lt_of_lt_of_le h.size hg.size⟩

set_option maxHeartbeats 4000000 in
theorem law_before (s : Shop) (F : Nat → Prop) (v : Value) (w : World) (i : Nat) (h : ShopAt w F s v) (hc : checkOf s = 0) (hi : i < s.tasks.length) :
    Calls Try.prog 28 #[v, .int .i64 i] w (RetInts (truesUpto (befAt s.tasks i) s.tasks.length) w) := by
  obtain ⟨l1, _, Z, hnl, _⟩ := zero_of_check s hc
  have hlen : (orderOf s.tasks).length = s.tasks.length := by have := orderOf_len s.tasks; omega
  have hok := afterOk_of _ Z
  have hup := afterUp_of _ Z
  have H0 := Lib.hid (Bfs.start hok hup hi (fun z hz => befAt_after hok hlen hi hz))
  have HST := Lib.hid (fun y hy z hz => befAt_step hok hlen i hi y hy z hz)
  have HD := Lib.hid (fun l hh x => Bfs.done (l := l) hok hlen hi hh x)
  have HOK := Lib.hid hok
  have hal := afterOf_lt hi
  obtain ⟨v1, v2, rfl, h1, h2⟩ := h
  have hB := Boxed.start w v1 v2 25
  obtain ⟨A, c, rfl, hc1, hc2, hr⟩ := h1
  obtain ⟨B, d, rfl, _⟩ := h2
  have HR := Lib.hid hr
  obtain ⟨b, o, A1, a1, rfl, _, hl1, _, _, _, cw3, hK⟩ := task_at hr i hi
  have hA := Kd.K_after hK
  rw [← hal] at hA cw3
  have hi' : (i : Int) < (s.tasks.length : Int) := by omega
  have h0i : (0 : Int) ≤ (i : Int) := by omega
  have hal2 : (afterOf s.tasks (i : Int)).length ≤ 24 := by have := H0.out.len; omega
  clear hc Z hnl hlen hok hup hal hK hr
  have c3 := (hB.below.cell (p := ⟨b, o + i * 4 + 3, none⟩) hl1).trans cw3
  have hE := own_empty (w.alloc (.cells #[.slice (some ⟨b, o, none⟩) s.tasks.length c, .slice B s.stations.length d] 25)) (w.heap.size + 1) 3 (by simp)
  rw [show (w.alloc (.cells #[.slice (some ⟨b, o, none⟩) s.tasks.length c, .slice B s.stations.length d] 25)).heap.size = w.heap.size + 1 by simp] at hE
  have hB1 := hB.later (below_one _ (.cells #[] 3))
  clear cw3
  go_enter Try.func28, Try.ntmps28
  go_wp2_with (at_builtin; go_must (refine app_all (w.heap.size + 1) rfl (.tmp 11) (.tmp 17) 31 3 rfl Try.underlying31 int_info (.slice (some ⟨w.heap.size + 1, 0, none⟩) 0 0) (.slice A1 (afterOf s.tasks (i : Int)).length a1) [] (afterOf s.tasks (i : Int)) F rfl rfl (hA.keep (Agree.below hB1.below)) hE (by simp) (by simp; omega) ?_; intro v1 w6 ho6 hg6; rw [List.nil_append] at ho6; obtain ⟨nA, nc, rfl, _⟩ := ho6.slice))
  have hB2 := hB1.grown hg6 (fun j hj => by have : w.heap.size + 1 = j := by simpa [Value.ownBlock] using hj
                                            omega)
  clear c3 hE hB hB1 hg6 hA
  go_loopw [5, 6, 8] (fun i5 i6 _ wr => ∃ (k : Nat) (l : List Int), i6 = .int .i64 k ∧ Boxed w wr (.slice (some ⟨b, o, none⟩) s.tasks.length c) (.slice B s.stations.length d) ∧ Kd.int.Own 3 wr (w.heap.size + 1) Kd.NoB i5 l ∧ Hid (Bfs s.tasks (befAt s.tasks i) (afterOf s.tasks (i : Int)) k l)) (fun _ i6 _ _ => s.tasks.length - (intOf i6).toNat)
  case atStart => exact ⟨0, _, rfl, hB2, ho6, Lib.hid H0.out⟩
  case round =>
    clear hB2 ho6
    obtain ⟨k, l, rfl, hB, ho, H⟩ := hrel
    obtain ⟨xA, xc, rfl, _⟩ := ho.slice
    have hkl : k ≤ l.length := H.out.hk
    have hln : l.length ≤ s.tasks.length := H.out.len
    have k0 := hB.c0
    have k1 := hB.c1
    by_cases hlt : k < l.length
    · obtain ⟨g, gc, he, hgb, _⟩ := ho.form (by omega)
      obtain ⟨rfl, _, rfl⟩ := Value.slice.inj he
      clear he
      obtain ⟨e1, _, _⟩ := ho.cell k hlt
      have hlt' : (k : Int) < (l.length : Int) := by omega
      obtain ⟨z0, z1⟩ := H.out.rng _ (List.getElem_mem hlt)
      have hsnd := H.out.snd _ (List.getElem_mem hlt)
      have HX := Lib.hid (List.getElem?_eq_getElem hlt)
      generalize l[k] = x at *
      obtain ⟨y, rfl⟩ := Int.eq_ofNat_of_zero_le z0
      have hy : y < s.tasks.length := by omega
      have HSD := Lib.hid (fun z hz => HST.out y hsnd z hz)
      obtain ⟨b', oo, A2, a2, he2, _, hl2, _, _, _, cw, hK⟩ := task_at HR.out y hy
      obtain ⟨rfl, rfl⟩ : b = b' ∧ o = oo := by simpa using he2
      have c3 := (hB.below.cell (p := ⟨b, o + y * 4 + 3, none⟩) hl2).trans cw
      have hA2 := Kd.K_after hK
      rw [← afterOf_lt hy] at hA2 c3
      have HAL := Lib.hid (show ∀ z, z ∈ afterOf s.tasks (y : Int) → z ∈ afterOf s.tasks (y : Int) from fun _ h => h)
      have HNX := Lib.hid (fun (l2 : List Int) (q : Bfs s.tasks (befAt s.tasks i) (afterOf s.tasks (i : Int)) k l2) (e : l2[k]? = some (y : Int)) (hh : ∀ z ∈ afterOf s.tasks (y : Int), z ∈ l2) => show Bfs s.tasks (befAt s.tasks i) (afterOf s.tasks (i : Int)) (k + 1) l2 from by
        obtain ⟨h1, h2⟩ := List.getElem?_eq_some_iff.1 e
        exact q.next h1 (by rw [h2]; exact hh))
      have HADD := Lib.hid (fun (l2 : List Int) (q : Bfs s.tasks (befAt s.tasks i) (afterOf s.tasks (i : Int)) k l2) (z : Int) (hz : z ∈ afterOf s.tasks (y : Int)) (hn : z ∉ l2) => q.add HOK.out hz hn (HSD.out z hz))
      clear cw hK he2 hsnd
      generalize afterOf s.tasks (y : Int) = al at *
      obtain ⟨_, _, he, _, ham, hra⟩ := hA2
      obtain ⟨rfl, _, rfl⟩ := Value.slice.inj he
      clear he
      go_wp2_with fail
      go_quiet (fail)
      go_wp2_with fail
      go_loopw [5, 8, 35] (fun i5 _ i35 wx => ∃ (q : Nat) (l2 : List Int), q ≤ al.length ∧ i35 = .int .i64 q ∧ Boxed w wx (.slice (some ⟨b, o, none⟩) s.tasks.length c) (.slice B s.stations.length d) ∧ Kd.int.Own 3 wx (w.heap.size + 1) Kd.NoB i5 l2 ∧ Hid (Bfs s.tasks (befAt s.tasks i) (afterOf s.tasks (i : Int)) k l2) ∧ Hid (l2[k]? = some (y : Int)) ∧ Hid (∀ z ∈ al.take q, z ∈ l2)) (fun _ _ i35 _ => al.length - (intOf i35).toNat)
      case atStart => exact ⟨0, l, Nat.zero_le _, rfl, hB.later ((Drawn.of _ _).below _), ho.below ((Drawn.of _ _).below _), Lib.hid H.out, Lib.hid HX.out, Lib.hid (fun z hz => by cases hz)⟩
      case round =>
        clear hB ho k0 k1 c3 e1 H HX hlt hlt' hkl hln
        obtain ⟨q, l2, hq, rfl, hB, ho, H, HX, HT⟩ := hrel
        obtain ⟨xA, xc, rfl, _⟩ := ho.slice
        have hln : l2.length ≤ s.tasks.length := H.out.len
        by_cases hlt2 : q < al.length
        · have hra' := hra.keep (Agree.below hB.below)
          obtain ⟨b3, o3, rfl, _, _, c4⟩ := int_at hra' q hlt2
          have hlt2' : (q : Int) < (al.length : Int) := by omega
          have hz := List.getElem_mem hlt2
          have HTK : Hid (∀ z, z ∈ al.take (q+1) → z ∈ al.take q ∨ z = al[q]) := Lib.hid (fun z hz => by
            rw [take_succ_at al q hlt2] at hz
            rcases List.mem_append.1 hz with h | h
            · exact .inl h
            · exact .inr (List.mem_singleton.1 h))
          generalize al[q] = z at *
          have hcall := law_has (.slice xA l2.length xc) _ l2 z wr ho.sl
          have HZ := Lib.hid hz
          cases hcn : l2.contains z with
          | true =>
            have hcm : z ∈ l2 := by simpa using hcn
            rw [hcn] at hcall
            go_wp2_with (refine hcall.mono ?_; rintro e' w' ⟨rfl, rfl⟩)
            go_roundw
            case rel => exact ⟨q+1, l2, by omega, by go_num, hB, ho, H, HX, Lib.hid (fun y hy => by
              rcases HTK.out y hy with h | rfl
              · exact HT.out y h
              · exact hcm)⟩
            case measure => simp [intOf]; omega
          | false =>
            have hcm : z ∉ l2 := by simpa using hcn
            have HA2 := Lib.hid (HADD.out l2 H.out z hz hcm)
            rw [hcn] at hcall
            have hzb := hB.size
            have hol : (l2.length + 1) * 8 ≤ 140737488355328 := by omega
            go_wp2_with (first
              | (refine hcall.mono ?_; rintro e' w' ⟨rfl, rfl⟩)
              | (at_builtin; go_must (refine Kd.app_at Kd.int (w.heap.size + 1) Kd.NoB rfl (.tmp 43) (.tmp 45) 31 3 (.int .i64 0) 8 rfl Try.underlying31 int_info rfl (by decide) (by omega) (.slice xA l2.length xc) l2 z #[.int .i64 z] rfl _ rfl rfl ⟨rfl, trivial⟩ ho hzb (fun b hb => hb.elim) hol ?_; intro v1 w6 ho6 hg6 hat6; obtain ⟨nA, nc, rfl, _⟩ := ho6.slice)))
            have hB6 := hB.grown hg6 (fun j hj => by have := (ho.lt j hj).1; omega)
            go_roundw
            case rel =>
              rw [List.length_append] at ho6
              exact ⟨q+1, _, by omega, by go_num, hB6, ho6, Lib.hid HA2.out, Lib.hid (by
                obtain ⟨h1, h2⟩ := List.getElem?_eq_some_iff.1 HX.out
                rw [List.getElem?_append_left h1]; exact HX.out), Lib.hid (fun y hy => by
                rcases HTK.out y hy with h | rfl
                · exact List.mem_append_left _ (HT.out y h)
                · exact List.mem_append_right _ (List.mem_cons_self ..))⟩
            case measure => simp [intOf]; omega
        · have hkn : k < s.tasks.length := by
            obtain ⟨h1, _⟩ := List.getElem?_eq_some_iff.1 HX.out
            omega
          have HN := Lib.hid (HNX.out l2 H.out HX.out (fun z hz => HT.out z (by rw [List.take_of_length_le (by omega)]; exact hz)))
          go_wp2_with fail
          go_roundw
          case rel => exact ⟨k+1, l2, by go_num, hB, ho, HN⟩
          case measure => simp [intOf]; omega
    · have HC := Lib.hid (fun x => HD.out l (by have e : k = l.length := by omega
                                                have := H.out
                                                rwa [e] at this) x)
      have hbw := hB.below
      have hbz := hB.size
      obtain ⟨W2, rfl⟩ : ∃ W2 : World, W2 = wr := ⟨_, rfl⟩
      go_wp2_with fail
      go_loopw [9, 10] (fun i9 i10 wx => ∃ (j : Nat) (ys : List Int), j ≤ s.tasks.length ∧ i10 = .int .i64 j ∧ Boxed w wx (.slice (some ⟨b, o, none⟩) s.tasks.length c) (.slice B s.stations.length d) ∧ Below W2.heap.size W2 wx ∧ Kd.int.Own 3 wx W2.heap.size Kd.NoB i9 ys ∧ Hid (ys = truesUpto (befAt s.tasks i) j)) (fun _ i10 _ => s.tasks.length - (intOf i10).toNat)
      case atStart => exact ⟨0, [], Nat.zero_le _, rfl, hB, Below.refl _ _, Kd.Own.nil _ _ _ _ _, Lib.hid rfl⟩
      case round =>
        clear hB k0 k1
        obtain ⟨j, ys, hj, rfl, hB, hb2, ho2, HY⟩ := hrel
        obtain ⟨yA, yc, rfl, _⟩ := ho2.slice
        have k0 := hB.c0
        have k1 := hB.c1
        by_cases hlt2 : j < s.tasks.length
        · have hlt2' : (j : Int) < (s.tasks.length : Int) := by omega
          have HS := Lib.hid (show truesUpto (befAt s.tasks i) (j+1) = ys ++ (if befAt s.tasks i j = true then [(j : Int)] else []) by rw [truesUpto, ← HY.out])
          have hcall := law_has (.slice xA l.length xc) _ l (j : Int) wr (ho.below hb2).sl
          rw [HC.out j] at hcall
          have hyl : (ys.length + 1) * 8 ≤ 140737488355328 := by have := truesUpto_len (befAt s.tasks i) j; rw [← HY.out] at this; omega
          generalize befAt s.tasks i j = x at *
          cases x with
          | false =>
            go_wp2_with (refine hcall.mono ?_; rintro e' w' ⟨rfl, rfl⟩)
            go_roundw
            case rel => exact ⟨j+1, ys, by omega, by go_num, hB, hb2, ho2, Lib.hid (by rw [HS.out]; simp)⟩
            case measure => simp [intOf]; omega
          | true =>
            have hzb := hb2.size
            go_wp2_with (first
              | (refine hcall.mono ?_; rintro e' w' ⟨rfl, rfl⟩)
              | (at_builtin; go_must (refine Kd.app_at Kd.int W2.heap.size Kd.NoB rfl (.tmp 58) (.tmp 60) 31 3 (.int .i64 0) 8 rfl Try.underlying31 int_info rfl (by decide) (by omega) (.slice yA ys.length yc) ys (j : Int) #[.int .i64 j] rfl _ rfl rfl ⟨rfl, trivial⟩ ho2 hzb (fun b hb => hb.elim) hyl ?_; intro v1 w6 ho6 hg6 hat6; obtain ⟨nA, nc, rfl, _⟩ := ho6.slice)))
            have hz2 := hbw.size
            have hB6 := hB.grown hg6 (fun j hj => by have := (ho2.lt j hj).1; omega)
            have hb6 := hb2.grown hg6 hzb (fun j hj => (ho2.lt j hj).1)
            go_roundw
            case rel =>
              rw [List.length_append] at ho6
              exact ⟨j+1, _, by omega, by go_num, hB6, hb6, ho6, Lib.hid (by rw [HS.out]; simp)⟩
            case measure => simp [intOf]; omega
        · have hR : Hid (truesUpto (befAt s.tasks i) s.tasks.length = ys) := Lib.hid (by rw [HY.out, show j = s.tasks.length by omega])
          have hz2 := hbw.size
          go_wp2_with fail
          go_ret
          exact ⟨.slice yA ys.length yc, rfl, by rw [hR.out]; exact ho2.lower (by omega), hB.below⟩
end Go.Proofs.Ythigebbihclbiaa
