/- task.Reduce, walked. -/
import Derived.Test.YthigebbihclbiaaRedInv
namespace Go.Proofs.Ythigebbihclbiaa
open Go.RowKit

theorem task_info : (Try.prog.info? 42).map (fun i => (i.zero, i.size, i.bytes)) = some (some (.agg #[.string ⟨#[]⟩, .int .i64 0, .string ⟨#[]⟩, .slice none 0 0]), 4, 64) := by kernel_rfl
theorem station_info : (Try.prog.info? 59).map (fun i => (i.zero, i.size, i.bytes)) = some (some (.agg #[.string ⟨#[]⟩, .slice none 0 0]), 2, 40) := by kernel_rfl

theorem Boxed.part {w W0 wr : World} {a b : Value} {N : Nat} (h : Boxed w W0 a b) (hb : Below N W0 wr) (hN : w.heap.size < N) : Boxed w wr a b :=
  ⟨(hb.cell (show w.heap.size < _ from hN)).trans h.c0, (hb.cell (show w.heap.size < _ from hN)).trans h.c1, h.below.trans (hb.mono (by omega)), Nat.lt_of_lt_of_le h.size hb.size⟩

set_option maxRecDepth 100000 in
set_option maxHeartbeats 1000000 in
theorem task_reduce (s : Shop) (F : Nat → Prop) (v : Value) (w : World) (h : ShopAt w F s v) (hal : ∀ t ∈ s.tasks, t.after.length ≤ 1000000) (htl : ∀ x ∈ s.stations, x.tools.length ≤ 1000000) :
    Calls Try.prog 17 #[v] w (RetS (reducePub s) (checkOf s) w) := by
  obtain ⟨v1, v2, rfl, h1, h2⟩ := h
  have hS := Lib.hid (show ∀ W, Below w.heap.size w W → ShopAt W F s (.agg #[v1, v2]) from fun W hW => ⟨v1, v2, rfl, h1.keep (Agree.below hW), h2.keep (Agree.below hW)⟩)
  obtain ⟨A, c, rfl, hc1, hc2, hr⟩ := h1
  obtain ⟨B, d, rfl, hd1, hd2, hs⟩ := h2
  have hB := (Boxed.start w (.slice A s.tasks.length c) (.slice B s.stations.length d) 25).later (below_one _ (.cells #[.slice none 0 0, .slice none 0 0] 25))
  have hp0 : (∀ o, o < 2 → ((w.alloc (.cells #[.slice A s.tasks.length c, .slice B s.stations.length d] 25)).alloc (.cells #[.slice none 0 0, .slice none 0 0] 25)).cell? ⟨w.heap.size + 1, o, none⟩ = some (.slice none 0 0)) ∧ ∀ o, ((w.alloc (.cells #[.slice A s.tasks.length c, .slice B s.stations.length d] 25)).alloc (.cells #[.slice none 0 0, .slice none 0 0] 25)).frozen? ⟨w.heap.size + 1, o, none⟩ = false :=
    ⟨fun o ho => by rcases (show o = 0 ∨ o = 1 by omega) with rfl | rfl <;> go_simp, fun o => by go_simp⟩
  have hcall := check_calls s F _ _ (hS.out _ hB.below)
  have HR := Lib.hid (show reducePub s = if checkOf s = 0 then reduceOf s else ⟨[], []⟩ from rfl)
  generalize reducePub s = R at *
  by_cases hc : checkOf s = 0
  · obtain ⟨l1, l2, Z, hnl, _⟩ := zero_of_check s hc
    have hlen : (orderOf s.tasks).length = s.tasks.length := by have := orderOf_len s.tasks; omega
    have hok := afterOk_of _ Z
    have hbef := fun W (hW : Below w.heap.size w W) => before_calls s F _ W (hS.out W hW) hok l1
    have HA := Lib.hid hok
    have HAL := Lib.hid hal
    have HTL := Lib.hid htl
    have hR := Lib.hid (HR.out.trans (if_pos hc))
    rw [hc] at hcall ⊢
    clear hc HR Z hnl hal htl hok
    go_enter Try.func17, Try.ntmps17
    go_wp2_with fail
    refine hcall.mono ?_
    rintro e w1 ⟨rfl, hb1⟩
    have hB1 := hB.later hb1
    have k0 := hB1.c0
    have k1 := hB1.c1
    have kp := fun o ho => (hb1.cell (show w.heap.size + 1 < _ by simp)).trans (hp0.1 o ho)
    have kf := fun o => (hb1.frozen (show w.heap.size + 1 < _ by simp)).trans (hp0.2 o)
    have hz1 : w.heap.size + 2 ≤ w1.heap.size := by have := hb1.size; simpa using this
    clear hB hcall hp0 hb1
    go_wp2_with fail
    refine (hbef _ hB1.below).mono ?_
    rintro e w2 ⟨rows, rfl, hm, hb2⟩
    have hB2 := hB1.later hb2
    replace kp := fun o ho => (hb2.cell (show w.heap.size + 1 < _ by omega)).trans (kp o ho)
    replace kf := fun o => (hb2.frozen (show w.heap.size + 1 < _ by omega)).trans (kf o)
    have hz2 := hb2.size
    have hbl := hm.outer.lt _ rfl
    clear hbef k0 k1 hB1 hb2
    have k0 := hB2.c0
    have k1 := hB2.c1
    go_upto_region 6 with fail
    have hb3 := below_two w2 (.cells #[.slice (some ⟨w1.heap.size + 1, 0, none⟩) s.tasks.length s.tasks.length] 75) (.cells #[.slice none 0 0, .slice none 0 0] 25)
    have hB3 := hB2.later hb3
    have hbo : BoolsAt (w2.alloc (.cells #[.slice (some ⟨w1.heap.size + 1, 0, none⟩) s.tasks.length s.tasks.length] 75)) w2.heap.size s.tasks.length (befAt s.tasks) (w2.heap.size + 1) := BoolsAt.of (by omega) (hm.below (below_one _ _)) (by simp) (by go_simp) rfl hlen
    replace hbo := hbo.below (show Below (w2.heap.size + 1) _ ((w2.alloc (.cells #[.slice (some ⟨w1.heap.size + 1, 0, none⟩) s.tasks.length s.tasks.length] 75)).alloc (.cells #[.slice none 0 0, .slice none 0 0] 25)) from (below_one _ _).mono (by simp))
    have I0 : BoxInv Kd.task 42 ((w2.alloc (.cells #[.slice (some ⟨w1.heap.size + 1, 0, none⟩) s.tasks.length s.tasks.length] 75)).alloc (.cells #[.slice none 0 0, .slice none 0 0] 25)) ((w2.alloc (.cells #[.slice (some ⟨w1.heap.size + 1, 0, none⟩) s.tasks.length s.tasks.length] 75)).alloc (.cells #[.slice none 0 0, .slice none 0 0] 25)) (w2.heap.size + 1) 0 1 (.slice none 0 0) (.slice none 0 0) [] (fun _ => False) :=
      ⟨World.grownBy.refl _ _, by simp, by go_simp, by go_simp, by go_simp, by go_simp, Kd.Own.nil _ _ _ _ _, fun _ h => h.elim⟩
    replace kp := fun o ho => (hb3.cell (show w.heap.size + 1 < _ by omega)).trans (kp o ho)
    replace kf := fun o => (hb3.frozen (show w.heap.size + 1 < _ by omega)).trans (kf o)
    clear hm hB2 k0 k1 hb3 hlen
    generalize (w2.alloc (.cells #[.slice (some ⟨w1.heap.size + 1, 0, none⟩) s.tasks.length s.tasks.length] 75)).alloc (.cells #[.slice none 0 0, .slice none 0 0] 25) = W0 at *
    have k0 := hB3.c0
    go_wp2_with fail
    go_loopw [8, 22] (fun _ i22 wr => ∃ (k : Nat) (v : Value) (G : Nat → Prop) (ys : List Task), k ≤ s.tasks.length ∧ i22 = .int .i64 k ∧ BoxInv Kd.task 42 W0 wr (w2.heap.size + 1) 0 1 v (.slice none 0 0) ys G ∧ Hid (ys = (s.tasks.take k).map (redTask s.tasks))) (fun _ i22 _ => s.tasks.length - (intOf i22).toNat)
    case atStart => exact ⟨0, _, _, _, Nat.zero_le _, rfl, I0, Lib.hid rfl⟩
    case round =>
      clear I0 k0
      obtain ⟨k, v, G, ys, hk, rfl, I, HYS⟩ := hrel
      obtain ⟨vA0, vc0, rfl, _⟩ := I.own.slice
      have hbw : Below w.heap.size w wr := hB3.below.trans (I.below.mono (by omega))
      have hzr := I.g.size
      have hT0 := I.hT
      by_cases hlt : k < s.tasks.length
      · obtain ⟨b, oo, A1, a1, rfl, _, hl1, cw0, cw1, cw2, cw3, hK⟩ := task_at hr k hlt
        have c0 := (hbw.cell (p := ⟨b, oo + k * 4, none⟩) hl1).trans cw0
        have c1 := (hbw.cell (p := ⟨b, oo + k * 4 + 1, none⟩) hl1).trans cw1
        have c2 := (hbw.cell (p := ⟨b, oo + k * 4 + 2, none⟩) hl1).trans cw2
        have c3 := (hbw.cell (p := ⟨b, oo + k * 4 + 3, none⟩) hl1).trans cw3
        have hlt' : (k : Int) < (s.tasks.length : Int) := by omega
        have hA := Kd.K_after hK
        obtain ⟨n1, n2⟩ := Kd.K_tsize hK
        have ha := HA.out s.tasks[k] (List.getElem_mem _)
        have hal := HAL.out s.tasks[k] (List.getElem_mem _)
        have HY : Hid ((s.tasks.take (k+1)).map (redTask s.tasks) = ys ++ [redTask s.tasks s.tasks[k]]) := Lib.hid (by rw [take_succ_at _ _ hlt, List.map_append, ← HYS.out]; rfl)
        clear hK cw0 cw1 cw2 cw3
        generalize s.tasks[k] = t at *
        obtain ⟨nm, du, tl, al⟩ := t
        simp only at c0 c1 c2 c3 hA n1 n2 ha hal
        go_upto_region 9 with fail
        have hwA := below_one wr (.cells #[.string nm, .int .i64 du, .string tl, .slice A1 al.length a1] 42)
        have qs : ∀ o x, (#[Value.string nm, .int .i64 du, .string tl, .slice A1 al.length a1] : Array Value)[o]? = some x → (wr.alloc (.cells #[.string nm, .int .i64 du, .string tl, .slice A1 al.length a1] 42)).cell? ⟨wr.heap.size, o, none⟩ = some x := fun o x ho => by
          rw [World.cell?_alloc_new]; exact ho
        have qf : ∀ o, (wr.alloc (.cells #[.string nm, .int .i64 du, .string tl, .slice A1 al.length a1] 42)).frozen? ⟨wr.heap.size, o, none⟩ = false := fun o => by go_simp
        have hsA : (wr.alloc (.cells #[.string nm, .int .i64 du, .string tl, .slice A1 al.length a1] 42)).heap.size = wr.heap.size + 1 := by simp
        generalize wr.alloc (.cells #[.string nm, .int .i64 du, .string tl, .slice A1 al.length a1] 42) = wA at *
        have q3 := qs 3 _ rfl
        have hcl := clone_int (.slice A1 al.length a1) F al wA ((hA.keep (Agree.below hbw)).keep (Agree.below hwA)) hal
        clear c0 c1 c2 c3
        go_wp2_with fail
        refine hcl.mono ?_
        rintro e w3 ⟨vc, rfl, ho3, hb3⟩
        clear hcl q3
        have hz3 := hb3.size
        have hcb : ∀ j, vc.ownBlock = some j → wA.heap.size ≤ j := fun j hj => (ho3.lt j hj).1
        have HW : ∀ W, w3.grownBy W vc.ownBlock → Below wr.heap.size wr W := fun W hg => ((hwA.trans (hb3.mono (by omega))).grown hg (by omega) (fun j hj => by have := hcb j hj; omega))
        have HQ : ∀ W o x, w3.grownBy W vc.ownBlock → (#[Value.string nm, .int .i64 du, .string tl, .slice A1 al.length a1] : Array Value)[o]? = some x → W.cell? ⟨wr.heap.size, o, none⟩ = some x := fun W o x hg ho =>
          hg.cell ((hb3.cell (show wr.heap.size < _ by omega)).trans (qs o x ho)) (fun e => by have : wA.heap.size ≤ wr.heap.size := hcb _ e.symm; omega)
        have hdel := deleteFunc_int vc wA.heap.size al 49 #[.pointer (some ⟨wr.heap.size, 0, none⟩), .pointer (some ⟨w2.heap.size, 0, none⟩)] (fun k => al.any (fun j => befAt s.tasks j.toNat k.toNat)) w3 ho3 eg_red1 (fun W x hx hg => by
          obtain ⟨x0, x1⟩ := ha x hx
          obtain ⟨kk, rfl⟩ := Int.eq_ofNat_of_zero_le x0
          have hW := HW W hg
          exact red1_calls (befAt s.tasks) w2.heap.size wr.heap.size s.tasks.length kk (w2.heap.size + 1) a1 A1 F al W (hbo.below (I.below.trans (hW.mono (by omega)))) (by have := hW.size; omega) (by omega) ((hA.keep (Agree.below hbw)).keep (Agree.below hW)) (HQ W 3 _ hg rfl) ha l1)
        go_wp2_with fail
        refine hdel.mono ?_
        rintro e w4 ⟨vd, rfl, ho4, hg4, hat4⟩
        clear hdel
        replace ho4 : Kd.int.Own 3 w4 wA.heap.size Kd.NoB vd (redAfter s.tasks al) := ho4
        have q0 := HQ w4 0 _ hg4 rfl
        have q1 := HQ w4 1 _ hg4 rfl
        have q2 := HQ w4 2 _ hg4 rfl
        have q3 := HQ w4 3 _ hg4 rfl
        have qf3 : w4.frozen? ⟨wr.heap.size, 3, none⟩ = false := (hg4.frozen_far ⟨wr.heap.size, 3, none⟩ (by show wr.heap.size < _; omega) (fun e => by have : wA.heap.size ≤ wr.heap.size := hcb _ e.symm; omega)).trans ((hb3.frozen (show wr.heap.size < _ by omega)).trans (qf 3))
        have hW4 := HW w4 hg4
        have hz4 := hg4.size
        have hdb : ∀ j, vd.ownBlock = some j → wr.heap.size < j ∧ j < w4.heap.size := fun j hj => by have := ho4.lt j hj; omega
        clear HQ HW qs qf
        obtain ⟨dA, dc, rfl, _⟩ := ho4.slice
        go_upto_region 10 with fail
        have gs : w4.grownBy (w4.setCell ⟨wr.heap.size, 3, none⟩ (.slice dA (redAfter s.tasks al).length dc)) (some wr.heap.size) := ⟨rfl, rfl, rfl, by simp [World.setCell], fun k _ hk => Below.heap_setCell _ _ _ _ (fun e => hk (by rw [e]))⟩
        have r0 : (w4.setCell ⟨wr.heap.size, 3, none⟩ (.slice dA (redAfter s.tasks al).length dc)).cell? ⟨wr.heap.size, 0, none⟩ = some (.string nm) := by rw [World.cell?_setCell_other _ _ _ _ (by intro x; injection x with _ x _; exact absurd x (by decide))]; exact q0
        have r1 : (w4.setCell ⟨wr.heap.size, 3, none⟩ (.slice dA (redAfter s.tasks al).length dc)).cell? ⟨wr.heap.size, 1, none⟩ = some (.int .i64 du) := by rw [World.cell?_setCell_other _ _ _ _ (by intro x; injection x with _ x _; exact absurd x (by decide))]; exact q1
        have r2 : (w4.setCell ⟨wr.heap.size, 3, none⟩ (.slice dA (redAfter s.tasks al).length dc)).cell? ⟨wr.heap.size, 2, none⟩ = some (.string tl) := by rw [World.cell?_setCell_other _ _ _ _ (by intro x; injection x with _ x _; exact absurd x (by decide))]; exact q2
        have r3 : (w4.setCell ⟨wr.heap.size, 3, none⟩ (.slice dA (redAfter s.tasks al).length dc)).cell? ⟨wr.heap.size, 3, none⟩ = some (.slice dA (redAfter s.tasks al).length dc) := by rw [World.cell?_setCell_same w4 _ _ (by rw [q3])]
        have hb5 : Below wr.heap.size wr (w4.setCell ⟨wr.heap.size, 3, none⟩ (.slice dA (redAfter s.tasks al).length dc)) := hW4.setCell (Nat.le_refl _) _
        have ho5 := ho4.grown gs (by
          cases e : (Value.slice dA (redAfter s.tasks al).length dc).ownBlock with
          | none => exact .inl rfl
          | some j => exact .inr (fun x => by have : wr.heap.size < j := (hdb j e).1; have := Option.some.inj x; omega)) (fun _ hb => hb.elim)
        have hz5 : (w4.setCell ⟨wr.heap.size, 3, none⟩ (.slice dA (redAfter s.tasks al).length dc)).heap.size = w4.heap.size := by simp [World.setCell]
        generalize w4.setCell ⟨wr.heap.size, 3, none⟩ (.slice dA (redAfter s.tasks al).length dc) = w5 at *
        replace hz5 : w4.heap.size ≤ w5.heap.size := by omega
        clear gs q0 q1 q2 q3 qf3 ho4 hg4 hW4 ho3 hcb hb3 hwA
        have I5 := I.later hb5
        have hgd : ∀ j, G j → wr.heap.size ≠ 0 ∧ j < wr.heap.size := fun j hj => ⟨by have := (I.flo j hj).2; omega, (I.flo j hj).2⟩
        have hF5 : ∀ j, (G j ∨ (Value.slice dA (redAfter s.tasks al).length dc).ownBlock = some j) → W0.heap.size ≤ j ∧ j < w5.heap.size := fun j hj => by
          rcases hj with hj | hj
          · exact I5.flo j hj
          · have := hdb j hj; omega
        have hK5 : Kd.task.K w5 (fun j => G j ∨ (Value.slice dA (redAfter s.tasks al).length dc).ownBlock = some j) (redTask s.tasks ⟨nm, du, tl, al⟩) (#[Value.string nm, .int .i64 du, .string tl, .slice dA (redAfter s.tasks al).length dc] : Array Value).toList :=
          Kd.K_task.2 ⟨_, rfl, n1, n2, ho5.sl.mono (by decide) (fun j hj _ => hj.elim (fun h => h.elim) (fun h => .inr h))⟩
        have hO5 := I5.own.more (F' := fun j => G j ∨ (Value.slice dA (redAfter s.tasks al).length dc).ownBlock = some j) (fun j hj => .inl hj) (fun j hj e => by
          rcases hj with hj | hj
          · obtain ⟨_, _, _, h3⟩ := I5.own
            exact h3 j hj e
          · have := hdb j hj; have := (I.own.lt j e).2; omega)
        have hol : (ys.length + 1) * 64 ≤ 140737488355328 := by rw [HYS.out]; simp; omega
        have t0 := I5.c
        have t1 := I5.f
        have hT5 : w2.heap.size + 1 < w5.heap.size := by omega
        generalize hRA : redAfter s.tasks al = ra at *
        go_wp2_with (at_builtin; go_must (refine Kd.app_at Kd.task W0.heap.size _ rfl (.tmp 33) (.tmp 35) 22 42 _ 64 rfl Try.underlying22 task_info rfl (by decide) (by omega) (.slice vA0 ys.length vc0) ys (redTask s.tasks ⟨nm, du, tl, al⟩) #[Value.string nm, .int .i64 du, .string tl, .slice dA ra.length dc] rfl _ rfl rfl hK5 hO5 I5.g.size (fun j hj => (hF5 j hj).2) hol ?_; intro v1 w6 ho6 hg6 hat6; obtain ⟨nA, nc, rfl, _⟩ := ho6.slice; obtain ⟨I6, kc, kf6⟩ := I5.appended (by decide) ho6 hg6 hF5 rfl; clear ho6 hat6 hg6))
        go_roundw
        case rel =>
          rw [List.length_append] at I6
          exact ⟨k+1, _, _, _, by omega, by go_num, I6, Lib.hid HY.out.symm⟩
        case measure => simp [intOf]; omega
      · have hkn : k = s.tasks.length := by omega
        subst hkn
        have hys : Hid (ys = s.tasks.map (redTask s.tasks)) := Lib.hid (by rw [HYS.out, List.take_of_length_le (Nat.le_refl _)])
        have J0 : BoxInv Kd.station 59 wr wr (w2.heap.size + 1) 1 0 (.slice none 0 0) (.slice vA0 ys.length vc0) [] (fun _ => False) :=
          ⟨World.grownBy.refl _ _, by omega, I.c', I.f', I.c, I.f, Kd.Own.nil _ _ _ _ _, fun _ h => h.elim⟩
        have HT : Kd.task.Sl wr (fun b => W0.heap.size ≤ b) ys (.slice vA0 ys.length vc0) := I.own.sl_to (by decide) (fun b hb _ => (I.flo b hb).1) (fun b hb _ => hb)
        have hB4 := hB3.part I.below (by omega)
        have k1 := hB4.c1
        replace kp := fun o ho => (I.below.cell (show w.heap.size + 1 < _ by omega)).trans (kp o ho)
        replace kf := fun o => (I.below.frozen (show w.heap.size + 1 < _ by omega)).trans (kf o)
        clear I HYS
        obtain ⟨w7, rfl⟩ : ∃ w7 : World, w7 = wr := ⟨_, rfl⟩
        go_wp2_with fail
        go_loopw [10, 42] (fun _ i42 wx => ∃ (k : Nat) (v : Value) (G : Nat → Prop) (zs : List Station), k ≤ s.stations.length ∧ i42 = .int .i64 k ∧ BoxInv Kd.station 59 w7 wx (w2.heap.size + 1) 1 0 v (.slice vA0 ys.length vc0) zs G ∧ Hid (zs = s.stations.take k)) (fun _ i42 _ => s.stations.length - (intOf i42).toNat)
        case atStart => exact ⟨0, _, _, _, Nat.zero_le _, rfl, J0, Lib.hid rfl⟩
        case round =>
          clear J0 k1
          obtain ⟨k, v, G, zs, hk2, rfl, J, HZS⟩ := hrel
          obtain ⟨uA, uc, rfl, _⟩ := J.own.slice
          have hB5 := hB4.part J.below (by omega)
          have hbw := hB5.below
          have hzx := J.g.size
          by_cases hlt2 : k < s.stations.length
          · obtain ⟨b, oo, A1, a1, rfl, _, hl1, cw0, cw1, hK⟩ := station_at hs k hlt2
            have c0 := (hbw.cell (p := ⟨b, oo + k * 2, none⟩) hl1).trans cw0
            have c1 := (hbw.cell (p := ⟨b, oo + k * 2 + 1, none⟩) hl1).trans cw1
            have hlt' : (k : Int) < (s.stations.length : Int) := by omega
            have hA := Kd.K_tools hK
            have n1 := Kd.K_ssize hK
            have htl := HTL.out s.stations[k] (List.getElem_mem _)
            have HY : Hid (s.stations.take (k+1) = zs ++ [s.stations[k]]) := Lib.hid (by rw [take_succ_at _ _ hlt2, ← HZS.out])
            clear hK cw0 cw1
            generalize s.stations[k] = t at *
            obtain ⟨nm, tl⟩ := t
            simp only at c0 c1 hA n1 htl
            go_upto_region 15 with fail
            have hwA := below_one wr (.cells #[.string nm, .slice A1 tl.length a1] 59)
            have q0 : (wr.alloc (.cells #[.string nm, .slice A1 tl.length a1] 59)).cell? ⟨wr.heap.size, 0, none⟩ = some (.string nm) := by go_simp
            have q1 : (wr.alloc (.cells #[.string nm, .slice A1 tl.length a1] 59)).cell? ⟨wr.heap.size, 1, none⟩ = some (.slice A1 tl.length a1) := by go_simp
            have qf : (wr.alloc (.cells #[.string nm, .slice A1 tl.length a1] 59)).frozen? ⟨wr.heap.size, 1, none⟩ = false := by go_simp
            have hsA : (wr.alloc (.cells #[.string nm, .slice A1 tl.length a1] 59)).heap.size = wr.heap.size + 1 := by simp
            generalize wr.alloc (.cells #[.string nm, .slice A1 tl.length a1] 59) = wA at *
            have hcl := clone_str (.slice A1 tl.length a1) F tl wA ((hA.keep (Agree.below hbw)).keep (Agree.below hwA)) htl
            clear c0 c1
            go_wp2_with fail
            refine hcl.mono ?_
            rintro e w3 ⟨vd, rfl, ho3, hb3⟩
            clear hcl
            have hz3 := hb3.size
            replace q0 := (hb3.cell (show wr.heap.size < _ by omega)).trans q0
            replace q1 := (hb3.cell (show wr.heap.size < _ by omega)).trans q1
            replace qf := (hb3.frozen (show wr.heap.size < _ by omega)).trans qf
            have hdb : ∀ j, vd.ownBlock = some j → wr.heap.size < j ∧ j < w3.heap.size := fun j hj => by have := ho3.lt j hj; omega
            have hW4 : Below wr.heap.size wr w3 := hwA.trans (hb3.mono (by omega))
            obtain ⟨dA, dc, rfl, _⟩ := ho3.slice
            go_upto_region 16 with fail
            have gs : w3.grownBy (w3.setCell ⟨wr.heap.size, 1, none⟩ (.slice dA tl.length dc)) (some wr.heap.size) := ⟨rfl, rfl, rfl, by simp [World.setCell], fun k _ hk => Below.heap_setCell _ _ _ _ (fun e => hk (by rw [e]))⟩
            have r0 : (w3.setCell ⟨wr.heap.size, 1, none⟩ (.slice dA tl.length dc)).cell? ⟨wr.heap.size, 0, none⟩ = some (.string nm) := by rw [World.cell?_setCell_other _ _ _ _ (by intro x; injection x with _ x _; exact absurd x (by decide))]; exact q0
            have r1 : (w3.setCell ⟨wr.heap.size, 1, none⟩ (.slice dA tl.length dc)).cell? ⟨wr.heap.size, 1, none⟩ = some (.slice dA tl.length dc) := by rw [World.cell?_setCell_same w3 _ _ (by rw [q1])]
            have hb5 : Below wr.heap.size wr (w3.setCell ⟨wr.heap.size, 1, none⟩ (.slice dA tl.length dc)) := hW4.setCell (Nat.le_refl _) _
            have ho5 := ho3.grown gs (by
              cases e : (Value.slice dA tl.length dc).ownBlock with
              | none => exact .inl rfl
              | some j => exact .inr (fun x => by have : wr.heap.size < j := (hdb j e).1; have := Option.some.inj x; omega)) (fun _ hb => hb.elim)
            have hz5 : (w3.setCell ⟨wr.heap.size, 1, none⟩ (.slice dA tl.length dc)).heap.size = w3.heap.size := by simp [World.setCell]
            generalize w3.setCell ⟨wr.heap.size, 1, none⟩ (.slice dA tl.length dc) = w5 at *
            replace hz5 : w3.heap.size ≤ w5.heap.size := by omega
            clear gs q0 q1 qf hW4 ho3 hb3 hwA
            have I5 := J.later hb5
            have hF5 : ∀ j, (G j ∨ (Value.slice dA tl.length dc).ownBlock = some j) → w7.heap.size ≤ j ∧ j < w5.heap.size := fun j hj => by
              rcases hj with hj | hj
              · exact I5.flo j hj
              · have := hdb j hj; omega
            have hK5 : Kd.station.K w5 (fun j => G j ∨ (Value.slice dA tl.length dc).ownBlock = some j) ⟨nm, tl⟩ (#[Value.string nm, .slice dA tl.length dc] : Array Value).toList :=
              Kd.K_station.2 ⟨_, rfl, n1, ho5.sl.mono (by decide) (fun j hj _ => hj.elim (fun h => h.elim) (fun h => .inr h))⟩
            have hO5 := I5.own.more (F' := fun j => G j ∨ (Value.slice dA tl.length dc).ownBlock = some j) (fun j hj => .inl hj) (fun j hj e => by
              rcases hj with hj | hj
              · obtain ⟨_, _, _, h3⟩ := I5.own
                exact h3 j hj e
              · have := hdb j hj; have := (J.own.lt j e).2; omega)
            have hol : (zs.length + 1) * 40 ≤ 140737488355328 := by rw [HZS.out]; simp; omega
            have t0 := I5.c
            have t1 := I5.f
            have hT5 : w2.heap.size + 1 < w5.heap.size := by omega
            go_wp2_with (at_builtin; go_must (refine Kd.app_at Kd.station w7.heap.size _ rfl (.tmp 51) (.tmp 53) 23 59 _ 40 rfl Try.underlying23 station_info rfl (by decide) (by omega) (.slice uA zs.length uc) zs ⟨nm, tl⟩ #[Value.string nm, .slice dA tl.length dc] rfl _ rfl rfl hK5 hO5 I5.g.size (fun j hj => (hF5 j hj).2) hol ?_; intro v1 w6 ho6 hg6 hat6; obtain ⟨nA, nc, rfl, _⟩ := ho6.slice; obtain ⟨I6, kc, kf6⟩ := I5.appended (by decide) ho6 hg6 hF5 rfl; clear ho6 hat6 hg6))
            go_roundw
            case rel =>
              rw [List.length_append] at I6
              exact ⟨k+1, _, _, _, by omega, by go_num, I6, Lib.hid HY.out.symm⟩
            case measure => simp [intOf]; omega
          · have hkn : k = s.stations.length := by omega
            subst hkn
            have t0 := J.c
            have t1 := J.c'
            have kp0 := (J.below.cell (show w.heap.size + 1 < _ by omega)).trans (kp 0 (by omega))
            have kp1 := (J.below.cell (show w.heap.size + 1 < _ by omega)).trans (kp 1 (by omega))
            have kf0 := (J.below.frozen (show w.heap.size + 1 < _ by omega)).trans (kf 0)
            have kf1 := (J.below.frozen (show w.heap.size + 1 < _ by omega)).trans (kf 1)
            clear kp kf
            go_wp2_with fail
            (try simp only [Exit.inBlock, Exit.then])
            refine bodyPost_ret (results_ct rfl _ _ _ (.agg #[.slice vA0 ys.length vc0, .slice uA zs.length uc]) rfl (by go_simp)) rfl ?_
            have gs : ∀ (W : World) (o : Nat) (x : Value), W.grownBy (W.setCell ⟨w.heap.size + 1, o, none⟩ x) (some (w.heap.size + 1)) := fun W o x => ⟨rfl, rfl, rfl, by simp [World.setCell], fun k _ hk => Below.heap_setCell _ _ _ _ (fun e => hk (by rw [e]))⟩
            have far : ∀ b, w7.heap.size ≤ b → some b ≠ some (w.heap.size + 1) := fun b hb e => by have := Option.some.inj e; omega
            have far0 : ∀ b, W0.heap.size ≤ b → some b ≠ some (w.heap.size + 1) := fun b hb e => by have := Option.some.inj e; omega
            have HT2 := ((HT.keep (Agree.grown J.g (fun b hb e => by have := Option.some.inj e; omega))).keep (Agree.grown (gs wr 0 (.slice vA0 ys.length vc0)) far0)).keep (Agree.grown (gs _ 1 (.slice uA zs.length uc)) far0)
            have HS0 : Kd.station.Sl wr (fun b => w7.heap.size ≤ b) zs (.slice uA zs.length uc) := J.own.sl_to (by decide) (fun b hb _ => (J.flo b hb).1) (fun b hb _ => hb)
            have HS2 := (HS0.keep (Agree.grown (gs wr 0 (.slice vA0 ys.length vc0)) far)).keep (Agree.grown (gs _ 1 (.slice uA zs.length uc)) far)
            have e1 : (reduceOf s).tasks = ys := hys.out.symm
            have e2 : (reduceOf s).stations = zs := by rw [HZS.out, List.take_of_length_le (Nat.le_refl _)]; rfl
            exact ⟨_, rfl, by rw [hR.out]; exact ⟨_, _, rfl, by rw [e1]; exact HT2.mono (by decide) (fun b hb _ => by omega), by rw [e2]; exact HS2.mono (by decide) (fun b hb _ => by omega)⟩, (hbw.setCell (by simp) _).setCell (by simp) _⟩
  · have hR := Lib.hid (HR.out.trans (if_neg hc))
    have ge : (checkOf s != 0) = true := by simpa using hc
    generalize checkOf s = cc at *
    clear hc HR hr hs
    go_enter Try.func17, Try.ntmps17
    go_wp2_with fail
    refine hcall.mono ?_
    rintro e w1 ⟨rfl, hb1⟩
    have hB1 := hB.later hb1
    have k0 := hB1.c0
    have k1 := hB1.c1
    have kp := fun o ho => (hb1.cell (show w.heap.size + 1 < _ by simp)).trans (hp0.1 o ho)
    have kf := fun o => (hb1.frozen (show w.heap.size + 1 < _ by simp)).trans (hp0.2 o)
    have kp0 := kp 0 (by omega)
    have kp1 := kp 1 (by omega)
    have kf0 := kf 0
    have kf1 := kf 1
    clear hB hcall hp0 kp kf
    go_wp2_with fail
    (try simp only [Exit.inBlock, Exit.then])
    refine bodyPost_ret (results_ct rfl _ _ _ (.agg #[.slice none 0 0, .slice none 0 0]) rfl (by go_simp)) rfl ?_
    exact ⟨_, rfl, by rw [hR.out]; exact ⟨_, _, rfl, Kd.Sl.nil _ _ _, Kd.Sl.nil _ _ _⟩, (hB1.below.setCell (by simp) _).setCell (by simp) _⟩
end Go.Proofs.Ythigebbihclbiaa
