/- graph.Order, walked: does it find a cycle? -/
import Derived.Test.YthigebbihclbiaaGrOrdI
import Derived.RegionTactic
import Derived.BigRegion
namespace Go.Proofs.Ythigebbihclbiaa
open Go.RowKit
set_option maxRecDepth 100000

def ordErr (ts : List Task) : Int := if (orderOf ts).length < ts.length then 30 else 0

set_option maxHeartbeats 4000000 in
theorem graph_order (ts : List Task) (es : List (Int × Int)) (F : Nat → Prop) (v : Value) (w : World) (h : GraphAt w F ts.length es v) (hg : GoodGraph ts.length es) (hp : es.Perm (edgesOf ts)) :
    Calls Try.prog 39 #[v] w fun e w' => ∃ u, e = .returned (.tuple #[u, .int .i64 (ordErr ts)]) ∧ Below w.heap.size w w' := by
  have hck := fun W (hW : Below w.heap.size w W) => graph_check ts.length es F v W (h.keep (Agree.below hW)) hg
  have hnx := fun W (hW : Below w.heap.size w W) => graph_next ts.length es F v W (h.keep (Agree.below hW)) hg.le (Nat.le_trans hg.few (Nat.mul_le_mul hg.le hg.le)) (fun e he => (hg.mem e he).1)
  obtain ⟨v2, rfl, A, c, rfl, hc1, hc2, hr⟩ := h
  have hB := Boxed.start w (.int .i64 ts.length) (.slice A es.length c) 70
  have HG := Lib.hid hg
  have HP := Lib.hid hp
  have hn := hg.le
  have hel : es.length ≤ 4096 := Nat.le_trans hg.few (Nat.mul_le_mul hg.le hg.le)
  have HO := Lib.hid (show orderOf ts = orderGo ts ts.length (List.replicate ts.length false) [] from rfl)
  have HE := Lib.hid (show ordErr ts = if (orderOf ts).length < ts.length then 30 else 0 from rfl)
  generalize ordErr ts = R at *
  have hmk := Kd.run_made (Pg := Try.prog) 31 3 (.int .i64 0) 8 Try.underlying31 int_info rfl (by omega) ts.length (by omega)
  have hmk2 := Kd.run_made (Pg := Try.prog) 80 4 (.bool false) 1 Try.underlying80 bool_info rfl (by omega) ts.length (by omega)
  clear hg hp
  go_enter Try.func39, Try.ntmps39
  go_upto_region 1 with fail
  generalize w.alloc _ = W at *
  have k0 := hB.c0
  have k1 := hB.c1
  go_wp2_with fail
  refine (hck _ hB.below).mono ?_
  rintro e w1 ⟨rfl, hb1⟩
  have hB1 := hB.later hb1
  clear hck hb1 hB k0 k1
  have k0 := hB1.c0
  have hz1 : w.heap.size + 1 ≤ w1.heap.size := hB1.size
  have G1 : OrdG w ((w1.alloc (.cells (madeCells #[.int .i64 0] ts.length) 3)).alloc (.cells (madeCells #[.bool false] ts.length) 4)) (.int .i64 ts.length) (.slice A es.length c) w1.heap.size (w1.heap.size + 1) ts.length ((w1.alloc (.cells (madeCells #[.int .i64 0] ts.length) 3)).alloc (.cells (madeCells #[.bool false] ts.length) 4)).heap.size (List.replicate ts.length 0) (List.replicate ts.length false) := by
    have a1 := (Kd.Own.made (enc := Value.int .i64) (P := fun _ => True) (h1 := fun _ => rfl) w1 (w.heap.size + 1) 3 0 ts.length trivial hz1 (by omega)).below (below_one _ (.cells (madeCells #[.bool false] ts.length) 4))
    have a2 := Kd.Own.made (enc := Value.bool) (P := fun _ => True) (h1 := fun _ => rfl) (w1.alloc (.cells (madeCells #[.int .i64 0] ts.length) 3)) (w.heap.size + 1) 4 false ts.length trivial (by simp; omega) (by omega)
    rw [show (w1.alloc (.cells (madeCells #[.int .i64 0] ts.length) 3)).heap.size = w1.heap.size + 1 by simp] at a2
    exact ⟨hB1.later (below_two _ _ _), a1, a2, by omega, List.length_replicate, List.length_replicate, by simp; omega, by simp, Nat.le_refl _⟩
  have G2 : OrdG w ((w1.alloc (.cells (madeCells #[.bool false] ts.length) 4)).alloc (.cells (madeCells #[.int .i64 0] ts.length) 3)) (.int .i64 ts.length) (.slice A es.length c) (w1.heap.size + 1) w1.heap.size ts.length ((w1.alloc (.cells (madeCells #[.bool false] ts.length) 4)).alloc (.cells (madeCells #[.int .i64 0] ts.length) 3)).heap.size (List.replicate ts.length 0) (List.replicate ts.length false) := by
    have a1 := (Kd.Own.made (enc := Value.bool) (P := fun _ => True) (h1 := fun _ => rfl) w1 (w.heap.size + 1) 4 false ts.length trivial hz1 (by omega)).below (below_one _ (.cells (madeCells #[.int .i64 0] ts.length) 3))
    have a2 := Kd.Own.made (enc := Value.int .i64) (P := fun _ => True) (h1 := fun _ => rfl) (w1.alloc (.cells (madeCells #[.bool false] ts.length) 4)) (w.heap.size + 1) 3 0 ts.length trivial (by simp; omega) (by omega)
    rw [show (w1.alloc (.cells (madeCells #[.bool false] ts.length) 4)).heap.size = w1.heap.size + 1 by simp] at a2
    exact ⟨hB1.later (below_two _ _ _), a2, a1, by omega, List.length_replicate, List.length_replicate, by simp, by simp; omega, Nat.le_refl _⟩
  replace G1 := Lib.hid (G1.later (Below.refl _ _).drew)
  replace G2 := Lib.hid (G2.later (Below.refl _ _).drew)
  go_upto_region 4 with fail
  go_cut [5, 6] (fun s5 s6 wx => ∃ gl gd, s5 = .slice (some ⟨gl, 0, none⟩) ts.length ts.length ∧ s6 = .slice (some ⟨gd, 0, none⟩) ts.length ts.length ∧ OrdG w wx (.int .i64 ts.length) (.slice A es.length c) gl gd ts.length wx.heap.size (List.replicate ts.length 0) (List.replicate ts.length false))
  case first =>
    go_region_held3 (fun w' => w'.cell? ⟨w.heap.size, 0, none⟩ = some (.int .i64 ts.length)) (first | exact k0 | go_keep) (fail)
    all_goals
      go_wp2_with fail
      go_meet
      first | exact ⟨_, _, rfl, rfl, G1.out⟩ | exact ⟨_, _, rfl, rfl, G2.out⟩
  case rest =>
    obtain ⟨gl, gd, rfl, rfl, I0⟩ := hcut
    clear G1 G2 hmk hmk2 k0 hB1
    obtain ⟨w2, rfl⟩ : ∃ w2 : World, w2 = w1 := ⟨_, rfl⟩
    have hNw : w.heap.size < wc.heap.size := I0.box.size
    have k1 := I0.box.c1
    go_wp2_with fail
    clear k1
    go_loopw [8, 28] (fun _ i28 wr => ∃ (k : Nat) (lf : List Int), k ≤ es.length ∧ i28 = .int .i64 k ∧ OrdG w wr (.int .i64 ts.length) (.slice A es.length c) gl gd ts.length wc.heap.size lf (List.replicate ts.length false) ∧ Hid (∀ j (h : j < lf.length), lf[j] = ((es.take k).countP (fun e => decide (e.2 = (j : Int))) : Int))) (fun _ i28 _ => es.length - (intOf i28).toNat)
    case atStart => exact ⟨0, _, Nat.zero_le _, rfl, I0, Lib.hid (fun j h => by simp)⟩
    case round =>
      clear I0
      obtain ⟨k, lf, hk, rfl, I, HL⟩ := hrel
      by_cases hlt : k < es.length
      · obtain ⟨b, o, rfl, _, hl1, cw0, cw1⟩ := edge_at hr k hlt
        have c0 := (I.box.below.cell (p := ⟨b, o + k * 2, none⟩) hl1).trans cw0
        have c1 := (I.box.below.cell (p := ⟨b, o + k * 2 + 1, none⟩) hl1).trans cw1
        obtain ⟨_, m0, m1⟩ := HG.out.mem es[k] (List.getElem_mem _)
        have hlt' : (k : Int) < (es.length : Int) := by omega
        have HS := Lib.hid (take_succ_at es k hlt)
        clear cw0 cw1
        generalize es[k] = e at *
        obtain ⟨x, y⟩ := e
        simp only at c0 c1 m0 m1
        obtain ⟨y, rfl⟩ := Int.eq_ofNat_of_zero_le m0
        have hy : y < ts.length := by omega
        have hyl : y < lf.length := by rw [I.ll]; exact hy
        have hlv := HL.out y hyl
        have hcp : (es.take k).countP (fun e => decide (e.2 = (y : Int))) ≤ k := by have h1 := List.countP_le_length (p := fun (e : Int × Int) => decide (e.2 = (y : Int))) (l := es.take k); rw [List.length_take] at h1; omega
        have b1 : 0 ≤ lf[y] := by omega
        have b2 : lf[y] ≤ 4096 := by omega
        have I2 := I.later (below_one wr (.cells #[.int .i64 x, .int .i64 (y : Int)] 89))
        have q1 : (wr.alloc (.cells #[.int .i64 x, .int .i64 (y : Int)] 89)).cell? ⟨wr.heap.size, 1, none⟩ = some (.int .i64 (y : Int)) := by go_simp
        have HL2 : Hid (∀ j (h : j < (lf.set y (lf[y] + 1)).length), (lf.set y (lf[y] + 1))[j] = ((es.take (k+1)).countP (fun e => decide (e.2 = (j : Int))) : Int)) := Lib.hid (fun j h => by
          rw [List.length_set] at h
          rw [HS.out, List.countP_append, List.getElem_set]
          by_cases hj : y = j
          · subst hj
            rw [if_pos rfl, HL.out y hyl]
            simp
          · have : ¬ (y : Int) = (j : Int) := by omega
            rw [if_neg hj, HL.out j h]
            simp [this])
        clear hlv hcp
        go_upto_region 8 with fail
        generalize wr.alloc _ = wB at *
        obtain ⟨e1, e2, _⟩ := I2.left.cell y hyl
        have I3 := (I2.setLeft y (lf[y] + 1)).1
        have hyy : (y : Int) < (ts.length : Int) := by omega
        generalize lf[y] = u at *
        go_wp2_with fail
        go_roundw
        case rel => exact ⟨k+1, _, by omega, by go_num, I3, HL2⟩
        case measure => simp [intOf]; omega
      · obtain ⟨wq, rfl⟩ : ∃ wq : World, wq = wr := ⟨_, rfl⟩
        have HL2 : Hid (LeftOk es (List.replicate ts.length false) lf) := Lib.hid (fun j h => by rw [HL.out j h, leftOf_start, List.take_of_length_le (by omega)])
        have k0 := I.box.c0
        have k1 := I.box.c1
        go_wp2_with fail
        refine (hnx _ I.box.below).mono ?_
        rintro e w3 ⟨rows, rfl, hM, hb3⟩
        have I4 := I.later hb3
        obtain ⟨nx, NX, HNX⟩ : ∃ nx, NextAt w3 (wq.heap.size + 1) ts.length wc.heap.size w3.heap.size nx ∧ Hid (∀ k (hk : k < nx.length), nx[k] = (es.filter (fun e => decide (e.1 = (k : Int)))).map (·.2)) :=
          ⟨_, NextAt.of hM (show wc.heap.size ≤ wq.heap.size + 1 by have := I.sz; omega), Lib.hid (fun k hk => nextOf_row ts.length es (fun e he => (HG.out.mem e he).1.1) k (by rw [nextOf_len] at hk; exact hk))⟩
        have hz3 := I4.sz
        clear hnx hM k0 k1 HL I hb3
        generalize wq.heap.size + 1 = gn at *
        have k0 := I4.box.c0
        go_wp2_with fail
        clear k0
        generalize hMM : w3.heap.size = M at *
        replace hMM := Nat.le_of_eq hMM
        have hMN : wc.heap.size ≤ M := hz3
        go_loopw [10, 11, 13, 44] (fun i10 _ _ i44 wr => ∃ (i : Nat) (lf : List Int) (dn : List Bool) (out : List Int), i ≤ ts.length ∧ i44 = .int .i64 i ∧ OrdG w wr (.int .i64 ts.length) (.slice A es.length c) gl gd ts.length wc.heap.size lf dn ∧ NextAt wr gn ts.length wc.heap.size M nx ∧ Kd.int.Own 3 wr M Kd.NoB i10 out ∧ Hid (LeftOk es dn lf) ∧ Hid (orderOf ts = orderGo ts (ts.length - i) dn out) ∧ Hid (out.length = i)) (fun _ _ _ i44 _ => ts.length - (intOf i44).toNat)
        case atStart => exact ⟨0, lf, _, [], Nat.zero_le _, rfl, I4, NX, Kd.Own.nil _ _ _ _ _, HL2, Lib.hid HO.out, Lib.hid rfl⟩
        case round =>
          clear I4 NX HL2 hz3 hMM
          obtain ⟨i, lf, dn, out, hi, rfl, I, NX, ho, HL, HT, HLen⟩ := hrel
          obtain ⟨oA, oc, rfl, _⟩ := ho.slice
          by_cases hin : i < ts.length
          · have hin' : (i : Int) < (ts.length : Int) := by omega
            obtain ⟨W, rfl⟩ : ∃ W : World, W = wr := ⟨_, rfl⟩
            have k0 := I.box.c0
            go_wp2_with fail
            go_loopw [11] (fun i11 wr => ∃ k : Nat, k ≤ ts.length ∧ i11 = .int .i64 k ∧ wr = W ∧ Hid (∀ j, j < k → ready ts dn j = false)) (fun i11 _ => ts.length - (intOf i11).toNat)
            case atStart => exact ⟨0, Nat.zero_le _, rfl, rfl, Lib.hid (fun j hj => by omega)⟩
            case round =>
              obtain ⟨k, hk, rfl, rfl, HN⟩ := hrel
              by_cases hkn : k < ts.length
              · have hkd : k < dn.length := by rw [I.dl]; exact hkn
                have hkl : k < lf.length := by rw [I.ll]; exact hkn
                obtain ⟨d1, d2, _⟩ := I.done.cell k hkd
                obtain ⟨l1, l2, _⟩ := I.left.cell k hkl
                have HRD := Lib.hid (ready_iff HP.out dn k hkn)
                have hlv := HL.out k hkl
                have hkn' : (k : Int) < (ts.length : Int) := by omega
                have HND : Hid (ready ts dn k = false → ∀ j, j < k + 1 → ready ts dn j = false) := Lib.hid (fun h j hj => by
                  rcases Nat.lt_succ_iff_lt_or_eq.1 hj with hj | rfl
                  · exact HN.out j hj
                  · exact h)
                have hgd : dn.getD k false = dn[k] := by simp [hkd]
                have HGD := Lib.hid hgd
                clear hgd
                cases hdk : dn[k] with
                | true =>
                  have hrf : ready ts dn k = false := by rw [HRD.out, HGD.out, hdk]; rfl
                  have HRF := Lib.hid hrf
                  rw [hdk] at d1
                  clear hrf hdk hlv
                  go_wp2_with fail
                  go_roundw
                  case rel => exact ⟨k+1, by omega, by go_num, by first | trivial | rfl, Lib.hid (HND.out HRF.out)⟩
                  case measure => simp [intOf]; omega
                | false =>
                  rw [hdk] at d1
                  by_cases hlp : 0 < lf[k]
                  · have HRF := Lib.hid (show ready ts dn k = false by rw [HRD.out, decide_eq_false (by omega), Bool.and_false])
                    have g1 : decide (0 < lf[k]) = true := decide_eq_true hlp
                    clear hdk hlv
                    generalize lf[k] = u at *
                    go_wp2_with fail
                    go_roundw
                    case rel => exact ⟨k+1, by omega, by go_num, by first | trivial | rfl, Lib.hid (HND.out HRF.out)⟩
                    case measure => simp [intOf]; omega
                  · have hrt : ready ts dn k = true := by rw [HRD.out, HGD.out, hdk, decide_eq_true (by omega)]; rfl
                    have HNX2 := Lib.hid (next_hit ts dn k hkn hrt HN.out)
                    have HDK := Lib.hid (show dn.getD k false = false by rw [HGD.out, hdk])
                    have g1 : decide (0 < lf[k]) = false := decide_eq_false hlp
                    have g2 : ((k : Int) == (ts.length : Int)) = false := beq_eq_false_iff_ne.2 (by omega)
                    clear hdk hlv hrt hlp HND HRD HN
                    generalize lf[k] = u at *
                    obtain ⟨I2, hg2⟩ := I.setDone k true
                    have hgdN := I.hd
                    have NX2 := NX.grown hg2 (fun j hj => .inl (by rw [← Option.some.inj hj]; exact hgdN))
                    have ho2 := ho.grown hg2 (by
                      cases e : (Value.slice oA out.length oc).ownBlock with
                      | none => exact .inl rfl
                      | some q => exact .inr (fun x => by have := (ho.lt q e).1; have := Option.some.inj x; omega)) (fun _ hb => hb.elim)
                    have hol : (out.length + 1) * 8 ≤ 140737488355328 := by rw [HLen.out]; omega
                    have HT2 : Hid (orderOf ts = orderGo ts (ts.length - (i + 1)) (dn.set k true) (out ++ [(k : Int)])) := Lib.hid (by
                      rw [HT.out, show ts.length - i = (ts.length - (i + 1)) + 1 by omega, orderGo, HNX2.out, if_neg (by omega)])
                    have HLS := Lib.hid (fun j => leftOf_set es (fun e he => (HG.out.mem e he).1.1) dn k j hkd HDK.out)
                    have HLen2 : Hid ((out ++ [(k : Int)]).length = i + 1) := Lib.hid (by simp [HLen.out])
                    have hM2 : M ≤ (wr.setCell ⟨gd, k, none⟩ (.bool true)).heap.size := NX2.sz
                    go_upto_region 20 with fail
                    generalize wr.setCell ⟨gd, k, none⟩ (.bool true) = wS at *
                    clear d1 l1 l2 d2 hg2 I NX ho HT HDK HGD k0
                    go_wp2_with (at_builtin; go_must (refine Kd.app_at Kd.int M Kd.NoB rfl (.tmp 72) (.tmp 74) 31 3 (.int .i64 0) 8 rfl Try.underlying31 int_info rfl (by decide) (by omega) (.slice oA out.length oc) out (k : Int) #[.int .i64 k] rfl _ rfl rfl ⟨rfl, trivial⟩ ho2 hM2 (fun b hb => hb.elim) hol ?_; intro v1 w6 ho6 hg6 hat6; obtain ⟨nA, nc, rfl, _⟩ := ho6.slice; have hrow6 : ∀ q, (Value.slice oA out.length oc).ownBlock = some q → M ≤ q := fun q hq => (ho2.lt q hq).1; have I6 := I2.grown hg6 (fun q hq => Nat.le_trans hMN (hrow6 q hq)); have NX6 := NX2.grown hg6 (fun q hq => .inr (hrow6 q hq)); have hknx : k < nx.length := (by rw [NX6.len]; exact hkn); obtain ⟨hA, hc, c3, hrow⟩ := NX6.row k hknx; clear hat6 hg6 hrow6 I2 NX2 ho2))
                    rw [List.length_append] at ho6
                    have HK := Lib.hid (HNX.out k hknx)
                    have HMK : Hid (∀ x ∈ nx[k], 0 ≤ x ∧ x < (ts.length : Int)) := Lib.hid (fun x hx => by
                      rw [HK.out] at hx
                      obtain ⟨e, he, rfl⟩ := List.mem_map.1 hx
                      exact (HG.out.mem e ((List.mem_filter.1 he).1)).2)
                    have hrl : nx[k].length ≤ 4096 := by rw [HK.out, List.length_map]; exact Nat.le_trans (List.length_filter_le ..) hel
                    generalize nx[k] = rk at *
                    clear c3 hkd hkl
                    obtain ⟨w6', rfl⟩ : ∃ w6' : World, w6' = w6 := ⟨_, rfl⟩
                    go_loopw [13, 81] (fun _ i81 wr => ∃ (p : Nat) (lf' : List Int), p ≤ rk.length ∧ i81 = .int .i64 p ∧ OrdG w wr (.int .i64 ts.length) (.slice A es.length c) gl gd ts.length wc.heap.size lf' (dn.set k true) ∧ NextAt wr gn ts.length wc.heap.size M nx ∧ Kd.int.Own 3 wr M Kd.NoB (.slice nA (out.length + [(k : Int)].length) nc) (out ++ [(k : Int)]) ∧ Kd.int.Row wr (fun b => wc.heap.size ≤ b ∧ b < M) hA rk ∧ Hid (∀ j (h : j < lf'.length), lf'[j] = (leftOf es dn j : Int) - ((rk.take p).count (j : Int) : Int))) (fun _ i81 _ => rk.length - (intOf i81).toNat)
                    case atStart => exact ⟨0, lf, Nat.zero_le _, rfl, I6, NX6, ho6, hrow, Lib.hid (fun j h => by rw [HL.out j h]; simp)⟩
                    case round =>
                      clear I6 NX6 ho6 hrow
                      obtain ⟨p, lf', hp, rfl, I, NX, ho, hrow, HL'⟩ := hrel
                      by_cases hpl : p < rk.length
                      · obtain ⟨b5, o5, rfl, ⟨hb5, _⟩, hl5, d0⟩ := int_at hrow p hpl
                        obtain ⟨x0, x1⟩ := HMK.out rk[p] (List.getElem_mem _)
                        have hpl' : (p : Int) < (rk.length : Int) := by omega
                        have HTK := Lib.hid (take_succ_at rk p hpl)
                        generalize rk[p] = x at *
                        obtain ⟨x, rfl⟩ := Int.eq_ofNat_of_zero_le x0
                        have hx : x < ts.length := by omega
                        have hxl : x < lf'.length := by rw [I.ll]; exact hx
                        obtain ⟨e1, e2, _⟩ := I.left.cell x hxl
                        have hlv := HL'.out x hxl
                        have hcb : (rk.take p).count (x : Int) ≤ p := by have h1 := List.count_le_length (a := (x : Int)) (l := rk.take p); rw [List.length_take] at h1; omega
                        have hlb := leftOf_le es dn x
                        have b1 : -4096 ≤ lf'[x] := by omega
                        have b2 : lf'[x] ≤ 4096 := by omega
                        obtain ⟨I3, hg3⟩ := I.setLeft x (lf'[x] - 1)
                        have hglN := I.hl
                        have NX3 := NX.grown hg3 (fun j hj => .inl (by rw [← Option.some.inj hj]; exact hglN))
                        have ho3 := ho.grown hg3 (by
                          cases e : (Value.slice nA (out.length + [(k : Int)].length) nc).ownBlock with
                          | none => exact .inl rfl
                          | some q => exact .inr (fun y => by have := (ho.lt q e).1; have := Option.some.inj y; omega)) (fun _ hb => hb.elim)
                        have hrow3 := hrow.keep (Agree.grown hg3 (fun b hb e => by have := Option.some.inj e; omega))
                        have HL3 : Hid (∀ j (h : j < (lf'.set x (lf'[x] - 1)).length), (lf'.set x (lf'[x] - 1))[j] = (leftOf es dn j : Int) - ((rk.take (p+1)).count (j : Int) : Int)) := Lib.hid (fun j h => by
                          rw [List.length_set] at h
                          rw [HTK.out, List.count_append, List.getElem_set]
                          by_cases hj : x = j
                          · subst hj
                            rw [if_pos rfl, HL'.out x hxl]
                            simp
                            omega
                          · have : ¬ (x : Int) = (j : Int) := by omega
                            rw [if_neg hj, HL'.out j h]
                            simp [List.count_singleton, this])
                        have hxx : (x : Int) < (ts.length : Int) := by omega
                        clear hlv hcb hlb hg3 I NX ho hrow
                        generalize lf'[x] = u2 at *
                        go_wp2_with fail
                        go_roundw
                        case rel => exact ⟨p+1, _, by omega, by go_num, I3, NX3, ho3, hrow3, HL3⟩
                        case measure => simp [intOf]; omega
                      · have HLF : Hid (LeftOk es (dn.set k true) lf') := Lib.hid (fun j h => by
                          rw [HL'.out j h, List.take_of_length_le (by omega), HLS.out j, ← HK.out]
                          omega)
                        go_wp2_with fail
                        go_roundw
                        case rel => exact ⟨i+1, lf', _, _, by omega, by go_num, I, NX, ho, HLF, HT2, HLen2⟩
                        case measure => simp [intOf]; omega
              · have hkk : k = ts.length := by omega
                have HR : R = 30 := by
                  have hnr := next_miss ts dn (fun j hj => HN.out j (by omega))
                  rw [HE.out, HT.out, order_end _ _ _ _ hnr, if_pos (by rw [HLen.out]; exact hin)]
                subst HR
                subst hkk
                have g2 : ((ts.length : Int) == (ts.length : Int)) = true := by simp
                go_wp2_with fail
                go_ret2
                exact ⟨_, rfl, I.box.below⟩
          · have HR : R = 0 := by
              have hii : i = ts.length := by omega
              have h1 := HT.out
              rw [hii, Nat.sub_self] at h1
              rw [HE.out, h1, orderGo, if_neg (by rw [HLen.out]; omega)]
            subst HR
            go_wp2_with fail
            go_ret2
            exact ⟨_, rfl, I.box.below⟩
end Go.Proofs.Ythigebbihclbiaa
