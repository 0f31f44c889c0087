/- The walk of task.before. -/
import Derived.Test.YthigebbihclbiaaOrderAll
namespace Go.Proofs.Ythigebbihclbiaa
open Go.RowKit

theorem rows_info : (Try.prog.info? 80).map (fun i => (i.zero, i.size, i.bytes)) = some (some (.slice none 0 0), 1, 24) := by kernel_rfl

set_option maxRecDepth 100000 in
set_option maxHeartbeats 1000000 in
theorem before_calls (s : Shop) (F : Nat → Prop) (v : Value) (w : World) (h : ShopAt w F s v) (hok : AfterOk s.tasks) (hlen : s.tasks.length ≤ 24) :
    Calls Try.prog 46 #[v] w (fun e w' => ∃ hs, e = .returned (.slice (some ⟨w.heap.size + 1, 0, none⟩) s.tasks.length s.tasks.length) ∧ Mat w' (w.heap.size + 1) (w.heap.size + 1) s.tasks.length hs (beforeOf s.tasks) ∧ Below w.heap.size w w') := by
  obtain ⟨v1, v2, rfl, h1, h2⟩ := h
  have hS := Lib.hid (show ∀ W, Below w.heap.size w W → ShopAt W F s (.agg #[v1, v2]) from fun W hW => ⟨v1, v2, rfl, h1.keep (Agree.below hW), h2.keep (Agree.below hW)⟩)
  clear h2
  obtain ⟨A, c, rfl, hc1, hc2, hr⟩ := h1
  have hmk := Kd.run_made (Pg := Try.prog) 75 80 (.slice none 0 0) 24 Try.underlying75 rows_info rfl (by omega) s.tasks.length (by omega)
  have hmk2 := Kd.run_made (Pg := Try.prog) 80 4 (.bool false) 1 Try.underlying80 bool_info rfl (by omega) s.tasks.length (by omega)
  have hord := fun W (hW : Below w.heap.size w W) => order_calls s F _ W (hS.out W hW) hok (by omega)
  have HE := Lib.hid (show beforeOf s.tasks = (orderOf s.tasks).foldl (befStep s.tasks) (List.replicate s.tasks.length []) from rfl)
  have hmem := Lib.hid (orderOf_mem s.tasks)
  have hol : (orderOf s.tasks).length ≤ s.tasks.length := orderOf_len _
  generalize beforeOf s.tasks = R at *
  generalize orderOf s.tasks = l at *
  have HOK := Lib.hid hok
  clear hok
  have hB := Boxed.start w (.slice A s.tasks.length c) v2 25
  have hm0 := (Mat.start (w.alloc (.cells #[.slice A s.tasks.length c, v2] 25)) (w.heap.size + 1) s.tasks.length (by simp) (by omega))
  rw [show (w.alloc (.cells #[.slice A s.tasks.length c, v2] 25)).heap.size = w.heap.size + 1 by simp] at hm0
  go_enter Try.func46, Try.ntmps46
  go_wp2_with fail
  clear hmk
  refine (hord _ (below_two _ _ _)).mono ?_
  rintro e w1 ⟨lv, rfl, ho, hb1⟩
  have I1 : BefInv w w1 (.slice A s.tasks.length c) v2 s.tasks.length lv l (List.replicate s.tasks.length (none, 0, 0)) (List.replicate s.tasks.length []) :=
    ⟨(hB.later (below_one _ _)).later hb1, hm0.below hb1, ⟨ho.choose, by simpa using ho.choose_spec⟩, fun i a ha => by rw [rep_get ha]; cases e : lv.ownBlock with | none => exact .inl rfl | some k => exact .inr (by simp [Hdr.enc, Value.ownBlock]), fun i a ha => by rw [rep_get ha]; exact Nat.zero_le _⟩
  clear hord ho hb1 hm0 hB
  obtain ⟨lA, lc, rfl, _⟩ := I1.row.slice
  go_wp2_with fail
  go_loopw [5, 7, 8, 9, 17] (fun _ _ _ _ i17 wr => ∃ (k : Nat) (hs : List Hdr) (m : List (List Bool)), k ≤ l.length ∧ i17 = .int .i64 k ∧ BefInv w wr (.slice A s.tasks.length c) v2 s.tasks.length (.slice lA l.length lc) l hs m ∧ Hid (R = (l.drop k).foldl (befStep s.tasks) m)) (fun _ _ _ _ i17 _ => l.length - (intOf i17).toNat)
  case atStart => exact ⟨0, _, _, Nat.zero_le _, rfl, I1, Lib.hid HE.out⟩
  case round =>
    clear I1
    obtain ⟨k, hs, m, hk, rfl, I, H⟩ := hrel
    by_cases hlt : k < l.length
    · obtain ⟨h0, h1⟩ := hmem.out l[k] (List.getElem_mem _)
      have S := Lib.hid (show (l.drop k).foldl (befStep s.tasks) m = (l.drop (k+1)).foldl (befStep s.tasks) (befStep s.tasks m l[k]) by rw [List.drop_eq_getElem_cons hlt]; rfl)
      obtain ⟨g2, gc, he, hgb, _⟩ := I.row.form (by omega)
      obtain ⟨rfl, _, rfl⟩ := Value.slice.inj he
      clear he
      obtain ⟨e1, _, _⟩ := I.row.cell k hlt
      have hlt' : (k : Int) < (l.length : Int) := by omega
      generalize l[k] = x at *
      obtain ⟨i, rfl⟩ := Int.eq_ofNat_of_zero_le h0
      have hi : i < s.tasks.length := by omega
      have k0 := I.box.c0
      have hz := I.box.size
      obtain ⟨q1, q2, _⟩ := I.mat.outer.cell i (by rw [I.mat.hl]; exact hi)
      have hg1 : w.heap.size + 1 < wr.heap.size := (I.mat.outer.lt _ rfl).2
      have I2 := I.made i (by omega) hi
      rw [World.setCell_alloc_past _ _ _ _ hg1] at I2
      go_upto_region 6 with fail
      have k0 := I2.box.c0
      obtain ⟨b, oo, A1, a1, rfl, _, hl1, _, _, _, cw3, hK⟩ := task_at hr i hi
      have c3 := (I2.box.below.cell (p := ⟨b, oo + i * 4 + 3, none⟩) hl1).trans cw3
      have hA := Kd.K_after hK
      have HT : Hid (befStep s.tasks m (i : Int) = s.tasks[i].after.foldl (depStep i) (m.set i (List.replicate s.tasks.length false))) := Lib.hid (by simp [befStep, afterOf, hi])
      have hrow : Hid ((hs.set i (some ⟨wr.heap.size, 0, none⟩, s.tasks.length, s.tasks.length))[i]? = some (some ⟨wr.heap.size, 0, none⟩, s.tasks.length, s.tasks.length)) := Lib.hid (List.getElem?_set_self (by rw [I.mat.hl]; exact hi))
      have ha := HOK.out s.tasks[i] (List.getElem_mem _)
      generalize World.alloc (World.setCell _ _ _) _ = wq at *
      generalize s.tasks[i].after = al at *
      generalize hs.set i _ = hs2 at *
      clear cw3 hK q1 q2 hz hg1 I
      generalize wr.heap.size = r at *
      go_wp2_with fail
      clear k0 c3
      obtain ⟨A3, a3, he3, ha1, ha2, hra⟩ := hA
      obtain ⟨rfl, _, rfl⟩ := Value.slice.inj he3
      clear he3
      go_loopw [7, 8, 9, 35] (fun _ _ _ i35 wy => ∃ (j : Nat) (m' : List (List Bool)), j ≤ al.length ∧ i35 = .int .i64 j ∧ BefInv w wy (.slice (some ⟨b, oo, none⟩) s.tasks.length c) v2 s.tasks.length (.slice (some ⟨g2, 0, none⟩) l.length lc) l hs2 m' ∧ Hid (befStep s.tasks m i = (al.drop j).foldl (depStep i) m')) (fun _ _ _ i35 _ => al.length - (intOf i35).toNat)
      case atStart => exact ⟨0, _, Nat.zero_le _, rfl, I2, HT⟩
      case round =>
        clear I2
        obtain ⟨j, m', hj, rfl, I3, HT3⟩ := hrel
        by_cases hlt2 : j < al.length
        · have hra' := hra.keep (Agree.below I3.box.below)
          obtain ⟨b3, o3, rfl, _, hl3, c3⟩ := int_at hra' j hlt2
          obtain ⟨g0, g1⟩ := ha al[j] (List.getElem_mem _)
          have S3 := Lib.hid (show (al.drop j).foldl (depStep i) m' = (al.drop (j+1)).foldl (depStep i) (depStep i m' al[j]) by rw [List.drop_eq_getElem_cons hlt2]; rfl)
          have hlt2' : (j : Int) < (al.length : Int) := by omega
          generalize al[j] = x at *
          obtain ⟨k', rfl⟩ := Int.eq_ofNat_of_zero_le g0
          have hk' : k' < s.tasks.length := by omega
          have him : i < m'.length := by rw [I3.mat.ml]; exact hi
          have hmi : m'[i]? = some m'[i] := List.getElem?_eq_getElem him
          obtain ⟨r1, r2, _⟩ := I3.mat.outer.cell i (by rw [I3.mat.hl]; exact hi)
          have hri : hs2[i]'(by rw [I3.mat.hl]; exact hi) = (some ⟨r, 0, none⟩, s.tasks.length, s.tasks.length) := Option.some.inj ((List.getElem?_eq_getElem _).symm.trans hrow.out)
          rw [hri] at r1
          have hrl : m'[i].length = s.tasks.length := by
            obtain ⟨_, _, he, _⟩ := (I3.mat.inner i _ _ hrow.out hmi).slice
            simp only [Hdr.enc, Value.slice.injEq] at he
            exact he.2.1.symm
          obtain ⟨s1, s2, _⟩ := Kd.Own.cell (I3.mat.inner i _ _ hrow.out hmi) k' (by omega)
          have I4 := I3.set i k' _ true hrow.out hmi
          have hr1 := (I3.mat.inner i _ _ hrow.out hmi).lt r rfl
          have hz := I3.box.size
          simp only [Hdr.enc] at r1
          go_upto_region 10 with fail
          generalize World.setCell _ _ _ = wz at *
          have hm4 : m'.length = s.tasks.length := I3.mat.ml
          have hT4 : Hid (depStep i m' (k' : Int) = (List.range (rowOf (m'.set i (m'[i].set k' true)) k').length).foldl (orStep i k') (m'.set i (m'[i].set k' true))) := Lib.hid (by
            unfold depStep
            simp [rowOf, him])
          generalize m'.set i (m'[i].set k' true) = m4 at *
          have hk4 : k' < m4.length := by rw [I4.mat.ml]; exact hk'
          have hkm : m4[k']? = some m4[k'] := List.getElem?_eq_getElem hk4
          have hkh : hs2[k']? = some (hs2[k']'(by rw [I4.mat.hl]; exact hk')) := List.getElem?_eq_getElem _
          obtain ⟨q1, q2, _⟩ := I4.mat.outer.cell k' (by rw [I4.mat.hl]; exact hk')
          generalize hs2[k']'(by rw [I4.mat.hl]; exact hk') = hd at *
          obtain ⟨Ak, lk, ck⟩ := hd
          have hlk : lk = (rowOf m4 k').length := by
            obtain ⟨_, _, he, _⟩ := (I4.mat.inner k' _ _ hkh hkm).slice
            simp only [Hdr.enc, Value.slice.injEq] at he
            rw [he.2.1]
            simp [rowOf, hk4]
          have hlw : lk ≤ s.tasks.length := I4.wid k' _ hkh
          have HKH := Lib.hid hkh
          have HLK := Lib.hid hlk
          simp only [Hdr.enc] at q1
          clear hkm hkh hlk s1 s2 c3 r1 r2 hra' hmi hri hrl
          go_wp2_with fail
          clear q1 q2
          go_loopw [8, 9, 50] (fun _ _ i50 wv => ∃ (p : Nat) (m5 : List (List Bool)), p ≤ lk ∧ i50 = .int .i64 p ∧ BefInv w wv (.slice (some ⟨b, oo, none⟩) s.tasks.length c) v2 s.tasks.length (.slice (some ⟨g2, 0, none⟩) l.length lc) l hs2 m5 ∧ Hid (depStep i m' (k' : Int) = ((List.range lk).drop p).foldl (orStep i k') m5)) (fun _ _ i50 _ => lk - (intOf i50).toNat)
          case atStart => exact ⟨0, m4, Nat.zero_le _, rfl, I4, Lib.hid (by rw [hT4.out, ← HLK.out]; rfl)⟩
          case round =>
            clear I4 I3
            obtain ⟨p, m5, hp, rfl, I5, H5⟩ := hrel
            by_cases hlt3 : p < lk
            · have hi5 : i < m5.length := by rw [I5.mat.ml]; exact hi
              have hk5 : k' < m5.length := by rw [I5.mat.ml]; exact hk'
              have hmi5 : m5[i]? = some m5[i] := List.getElem?_eq_getElem hi5
              have hmk5 : m5[k']? = some m5[k'] := List.getElem?_eq_getElem hk5
              obtain ⟨r1, r2, _⟩ := I5.mat.outer.cell i (by rw [I5.mat.hl]; exact hi)
              have hri : hs2[i]'(by rw [I5.mat.hl]; exact hi) = (some ⟨r, 0, none⟩, s.tasks.length, s.tasks.length) := Option.some.inj ((List.getElem?_eq_getElem _).symm.trans hrow.out)
              rw [hri] at r1
              have hrl : m5[i].length = s.tasks.length := by
                obtain ⟨_, _, he, _⟩ := (I5.mat.inner i _ _ hrow.out hmi5).slice
                simp only [Hdr.enc, Value.slice.injEq] at he
                exact he.2.1.symm
              have hkl : m5[k'].length = lk := by
                obtain ⟨_, _, he, _⟩ := (I5.mat.inner k' _ _ HKH.out hmk5).slice
                simp only [Hdr.enc, Value.slice.injEq] at he
                exact he.2.1.symm
              obtain ⟨gk, _, hek, _, _⟩ := (I5.mat.inner k' _ _ HKH.out hmk5).form (by omega)
              obtain ⟨rfl, -, -⟩ := Value.slice.inj hek
              clear hek
              obtain ⟨s1, s2, _⟩ := Kd.Own.cell (I5.mat.inner i _ _ hrow.out hmi5) p (by omega)
              obtain ⟨t1, t2, _⟩ := Kd.Own.cell (I5.mat.inner k' _ _ HKH.out hmk5) p (by omega)
              have I6 := (I5.set i p _ (m5[i][p] || m5[k'][p]) hrow.out hmi5).drawn (Drawn.one (Drawn.refl _))
              have HS := Lib.hid (show ((List.range lk).drop p).foldl (orStep i k') m5 = ((List.range lk).drop (p+1)).foldl (orStep i k') (m5.set i (m5[i].set p (m5[i][p] || m5[k'][p]))) by
                rw [List.drop_eq_getElem_cons (by simpa using hlt3), List.foldl_cons]
                have hpk : p < m5[k'].length := by omega
                have hpi : p < m5[i].length := by omega
                simp [orStep, rowOf, hi5, hk5, hpk, hpi])
              have hlt3' : (p : Int) < (lk : Int) := by omega
              simp only [Hdr.enc] at r1
              generalize m5.set i (m5[i].set p (m5[i][p] || m5[k'][p])) = m6 at *
              generalize m5[i][p]'(by omega) = x at *
              generalize m5[k'][p]'(by omega) = y at *
              clear hkl hrl hri hmi5 hmk5
              cases x
              all_goals
                simp only [Bool.true_or, Bool.false_or] at I6
                go_wp2_with fail
                go_region
                go_wp2_with fail
                go_roundw
                case rel => exact ⟨p+1, m6, by omega, by go_num, I6, Lib.hid (by rw [H5.out, HS.out])⟩
                case measure => simp [intOf]; omega

            · go_wp2_with fail
              go_roundw
              case rel => exact ⟨j+1, m5, by omega, by go_num, I5, Lib.hid (by rw [HT3.out, S3.out, H5.out, List.drop_of_length_le (by simp; omega)]; rfl)⟩
              case measure => simp [intOf]; omega
        · go_wp2_with fail
          go_roundw
          case rel => exact ⟨k+1, hs2, m', by omega, by go_num, I3, Lib.hid (by rw [H.out, S.out, HT3.out, List.drop_of_length_le (by omega)]; rfl)⟩
          case measure => simp [intOf]; omega
    · go_wp2_with fail
      go_ret
      exact ⟨hs, rfl, by rw [H.out, List.drop_of_length_le (by omega)]; exact I.mat, I.box.below⟩
end Go.Proofs.Ythigebbihclbiaa
