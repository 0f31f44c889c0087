/- The law TaskOrders, walked. -/
import Derived.Test.YthigebbihclbiaaOrdSteps
import Derived.Test.YthigebbihclbiaaLawBef
import Derived.Test.YthigebbihclbiaaAble
namespace Go.Proofs.Ythigebbihclbiaa
open Go.RowKit
set_option maxRecDepth 100000

/-- What Able returns for a valid shop. -/
def ablePub (s : Shop) (i : Int) : List Int := if i < 0 ∨ (s.tasks.length : Int) ≤ i then [] else ableOf s.stations ((s.tasks[i.toNat]?).elim ⟨#[]⟩ (·.tool))
theorem task_able (s : Shop) (F : Nat → Prop) (v : Value) (i : Int) (w : World) (h : ShopAt w F s v) (hc : checkOf s = 0) :
    Calls Try.prog 27 #[v, .int .i64 i] w (RetL (ablePub s i) (if i < 0 ∨ (s.tasks.length : Int) ≤ i then 2 else 0) w) := by
  by_cases hi : i < 0 ∨ (s.tasks.length : Int) ≤ i
  · rw [if_pos hi, ablePub, if_pos hi]
    exact able_out s F v i w h hc hi
  · rw [if_neg hi, ablePub, if_neg hi]
    obtain ⟨j, rfl⟩ := Int.eq_ofNat_of_zero_le (show 0 ≤ i by omega)
    have hj : j < s.tasks.length := by omega
    obtain ⟨_, _, _, _, Z2, _⟩ := zero_of_check s hc
    have := able_in s F v j w h hc hj
    rw [tools_able Z2] at this
    simpa [hj] using this

set_option maxHeartbeats 4000000 in
theorem law_orders (s : Shop) (F : Nat → Prop) (v : Value) (i : Int) (w : World) (h : ShopAt w F s v) :
    Calls Try.prog 7 #[v, .int .i64 i] w fun e w' => e = .returned (.bool true) ∧ Below w.heap.size w w' := by
  obtain ⟨v1, v2, rfl, h1, h2⟩ := h
  have hS := Lib.hid (show ∀ W, Below w.heap.size w W → ShopAt W F s (.agg #[v1, v2]) from fun W hW => ⟨v1, v2, rfl, h1.keep (Agree.below hW), h2.keep (Agree.below hW)⟩)
  have hB := Boxed.start w v1 v2 25
  obtain ⟨A, c, rfl, hc1, hc2, hr⟩ := h1
  obtain ⟨B, d, rfl, hd1, _⟩ := h2
  go_enter Try.func7, Try.ntmps7
  go_upto_region 1 with fail
  generalize w.alloc _ = W at *
  go_wp2_with fail
  refine (known_calls W).mono ?_
  rintro e w1 ⟨rfl, hb1⟩
  have hB1 := hB.later hb1
  clear hb1 hB
  have k0 := hB1.c0
  have k1 := hB1.c1
  go_wp2_with fail
  refine (few_calls s F _ w1 (hS.out _ hB1.below)).mono ?_
  rintro e w2 ⟨rfl, hb2⟩
  have hB2 := hB1.later hb2
  clear k0 k1 hb2 hB1
  cases hfa : fewOf s with
  | false =>
    go_wp2_with fail
    refine (known_calls w2).mono ?_
    rintro e w3 ⟨rfl, hb3⟩
    go_wp2_with fail
    go_ret
    exact ⟨rfl, (hB2.later hb3).below⟩
  | true =>
    clear hfa
    have k0 := hB2.c0
    have k1 := hB2.c1
    go_wp2_with fail
    refine (law_check s F _ w2 (hS.out _ hB2.below)).mono ?_
    rintro e w3 ⟨rfl, hb3⟩
    have hB3 := hB2.later hb3
    clear k0 k1 hb3 hB2
    by_cases hc : checkOf s = 0
    · obtain ⟨l1, l2, Z, hnl, _⟩ := zero_of_check s hc
      have hlen : (orderOf s.tasks).length = s.tasks.length := by have := orderOf_len s.tasks; omega
      have hok := afterOk_of _ Z
      have Hor := task_order s F _ w3 (hS.out _ hB3.below)
      have Hbe := Lib.hid (fun W hW => task_before s F _ W (hS.out W hW) hc)
      have Hab := Lib.hid (fun W hW => task_able s F _ i W (hS.out W hW) hc)
      have Hlb := Lib.hid (fun W hW k hk => law_before s F _ W k (hS.out W hW) hc hk)
      have HST := Lib.hid (orderOf_steps s.tasks hok)
      have hbl : (befLists s.tasks).length = s.tasks.length := by simp [befLists]
      have HBL := Lib.hid (fun k (hk : k < (befLists s.tasks).length) => show (befLists s.tasks)[k] = truesUpto (befAt s.tasks k) s.tasks.length by simp [befLists])
      rw [show orderPub s = orderOf s.tasks from if_pos hc] at Hor
      have HAE := Lib.hid (show ablePub s i = if i < 0 ∨ (s.tasks.length : Int) ≤ i then [] else ableOf s.stations ((s.tasks[i.toNat]?).elim ⟨#[]⟩ (·.tool)) from rfl)
      rw [hc] at Hor ⊢
      generalize orderOf s.tasks = ol at *
      generalize befLists s.tasks = bl at *
      generalize ablePub s i = abl at *
      clear hc Z hnl hok
      have k0 := hB3.c0
      have k1 := hB3.c1
      go_wp2_with fail
      refine Hor.mono ?_
      rintro e w4 ⟨ov, rfl, ho4, hb4⟩
      have hB4 := hB3.later hb4
      clear k0 k1 hb4 hB3 Hor
      obtain ⟨oA, oc, rfl, _, _, _⟩ := id ho4
      have k0 := hB4.c0
      have k1 := hB4.c1
      go_wp2_with fail
      refine (Hbe.out _ hB4.below).mono ?_
      rintro e w5 ⟨bv, rfl, ho5, hb5⟩
      have hB5 := hB4.later hb5
      obtain ⟨bA, bc, rfl, _, _, _⟩ := id ho5
      have ho5' := ho4.keep (Agree.below hb5)
      clear k0 k1 hb5 hB4 Hbe ho4
      have k0 := hB5.c0
      have k1 := hB5.c1
      go_wp2_with fail
      refine (Hab.out _ hB5.below).mono ?_
      rintro e w6 ⟨av, rfl, ho6, hb6⟩
      have hB6 := hB5.later hb6
      obtain ⟨aA, ac, rfl, _, _, _⟩ := id ho6
      have HO := Lib.hid (ho5'.keep (Agree.below hb6))
      have HBV := Lib.hid (ho5.keep (Agree.below hb6))
      have HAV := Lib.hid ho6
      clear k0 k1 hb6 hB5 Hab ho5 ho5' ho6
      have k0 := hB6.c0
      have k1 := hB6.c1
      have gol : ((ol.length : Int) != (s.tasks.length : Int)) = false := by rw [hlen]; simp
      have gbl : ((bl.length : Int) != (s.tasks.length : Int)) = false := by rw [hbl]; simp
      have HL := Lib.hid hlen
      have HLB := Lib.hid hbl
      clear hlen hbl
      generalize hcc : (if i < 0 ∨ (s.tasks.length : Int) ≤ i then (2 : Int) else 0) = cc at *
      have HCC := Lib.hid hcc.symm
      clear hcc
      go_wp2_with fail
      clear k0 k1 gol gbl
      have hz6 := hB6.size
      go_loopw [11, 12, 13, 14, 15, 17] (fun i11 i12 _ _ _ _ wr => ∃ (n : Nat) (dl : List Int), n ≤ s.tasks.length ∧ i12 = .int .i64 n ∧ Boxed w wr (.slice A s.tasks.length c) (.slice B s.stations.length d) ∧ Kd.int.Own 3 wr w6.heap.size Kd.NoB i11 dl ∧ Below w6.heap.size w6 wr ∧ Hid (dl = ol.take n)) (fun _ i12 _ _ _ _ _ => s.tasks.length - (intOf i12).toNat)
      case atStart => exact ⟨0, [], Nat.zero_le _, rfl, hB6, Kd.Own.nil _ _ _ _ _, Below.refl _ _, Lib.hid rfl⟩
      case round =>
        clear hB6
        obtain ⟨n, dl, hn, rfl, hB, ho, hb, HDL⟩ := hrel
        obtain ⟨dA, dc, rfl, _⟩ := ho.slice
        have k0 := hB.c0
        have k1 := hB.c1
        by_cases hlt : n < s.tasks.length
        · have hnl : n < ol.length := by rw [HL.out]; exact hlt
          have hnb : n < bl.length := by rw [HLB.out]; exact hlt
          obtain ⟨x, hx, hxe, hxo, hxm⟩ := HST.out n hnl
          rw [← HDL.out] at hxo hxm
          have HXO := Lib.hid hxo
          have HXM := Lib.hid hxm
          obtain ⟨_, _, heo, _, _, hro⟩ := HO.out.keep (Agree.below hb)
          obtain ⟨rfl, -, rfl⟩ := Value.slice.inj heo
          obtain ⟨bo, oo, rfl, _, hbo, e1⟩ := int_at hro n hnl
          rw [show ol[n] = (x : Int) from by rw [List.getElem?_eq_getElem hnl] at hxe; exact Option.some.inj hxe] at e1
          obtain ⟨_, _, heb, _, _, hrb⟩ := HBV.out.keep (Agree.below hb)
          obtain ⟨rfl, -, rfl⟩ := Value.slice.inj heb
          obtain ⟨bb, ob, rA, rc, rfl, _, hbb, e2, hrow⟩ := ints_at hrb n hnb
          rw [HBL.out n hnb] at hrow e2
          have HTK : Hid (ol.take (n+1) = dl ++ [(x : Int)]) := Lib.hid (by
            rw [take_succ_at _ _ hnl, ← HDL.out]
            rw [List.getElem?_eq_getElem hnl] at hxe
            rw [Option.some.inj hxe])
          have hlt' : (n : Int) < (s.tasks.length : Int) := by omega
          have hdl : dl.length ≤ 24 := by rw [HDL.out, List.length_take]; omega
          have hsh := ho.sl
          have hra0 := hr.keep (Agree.below hB.below)
          have gx : decide ((x : Int) < 0) = false := decide_eq_false (by omega)
          have E1 := Lib.hid e1
          have E2 := Lib.hid e2
          clear hro hrb heo heb hxo hxm hxe e1 e2
          generalize hXe : truesUpto (befAt s.tasks n) s.tasks.length = X at *
          have HXE := Lib.hid hXe
          clear hXe
          obtain ⟨W2, rfl⟩ : ∃ W2 : World, W2 = wr := ⟨_, rfl⟩
          go_wp2_with fail
          go_loopw [13, 14, 15, 17] (fun i13 i14 _ _ wx => ∃ k : Nat, k ≤ x + 1 ∧ i14 = .int .i64 k ∧ i13 = .int .i64 (if k ≤ x then -1 else x) ∧ wx = W2) (fun _ i14 _ _ _ => x + 1 - (intOf i14).toNat)
          case atStart => exact ⟨0, Nat.zero_le _, rfl, by rw [if_pos (Nat.zero_le _)], rfl⟩
          case round =>
            obtain ⟨k, hk, rfl, rfl, rfl⟩ := hrel
            by_cases hkx : k ≤ x
            · rw [if_pos hkx]
              have hkN : k < s.tasks.length := by omega
              have hkN' : (k : Int) < (s.tasks.length : Int) := by omega
              have hcall := law_has (.slice dA dl.length dc) _ dl (k : Int) wr hsh
              obtain ⟨b, o, A1, a1, rfl, _, hl1, _, _, _, c3, hK⟩ := task_at hra0 k hkN
              have hA := Kd.K_after hK
              rw [← afterOf_lt hkN] at hA c3
              have HOA := Lib.hid (show okAt s.tasks dl k = (!dl.contains (k : Int) && (afterOf s.tasks (k : Int)).all (fun j => dl.contains j)) from rfl)
              have HX1 := Lib.hid (fun (e : okAt s.tasks dl k = true) => show k = x from by
                rcases Nat.lt_or_ge k x with h | h
                · rw [HXM.out k h] at e; cases e
                · omega)
              have HX2 := Lib.hid (fun (e : okAt s.tasks dl k = false) => show k ≠ x from fun h => by rw [h, HXO.out] at e; cases e)
              generalize okAt s.tasks dl k = r at *
              generalize dl.contains (k : Int) = cn at *
              generalize afterOf s.tasks (k : Int) = al at *
              obtain ⟨_, _, he, _, _, hra⟩ := hA
              obtain ⟨rfl, -, rfl⟩ := Value.slice.inj he
              clear he hK
              go_wp2_with (refine hcall.mono ?_; rintro e' w' ⟨rfl, rfl⟩)
              clear hcall
              go_loopw [15, 17, 98] (fun i15 _ i98 wy => ∃ q : Nat, q ≤ al.length ∧ i98 = .int .i64 q ∧ i15 = .bool (!cn && (al.take q).all (fun j => dl.contains j)) ∧ wy = wr) (fun _ _ i98 _ => al.length - (intOf i98).toNat)
              case atStart => exact ⟨0, Nat.zero_le _, rfl, by simp, rfl⟩
              case round =>
                obtain ⟨q, hq, rfl, rfl, rfl⟩ := hrel
                by_cases hql : q < al.length
                · obtain ⟨b3, o3, rfl, _, _, c4⟩ := int_at hra q hql
                  have hql' : (q : Int) < (al.length : Int) := by omega
                  have HTQ : Hid ((al.take (q+1)).all (fun j => dl.contains j) = ((al.take q).all (fun j => dl.contains j) && dl.contains al[q])) := Lib.hid (by rw [take_succ_at al q hql, List.all_append]; simp)
                  generalize al[q] = z at *
                  have hcall2 := law_has (.slice dA dl.length dc) _ dl z wr hsh
                  have HP : Hid ((!cn && (al.take (q+1)).all (fun j => dl.contains j)) = ((!cn && (al.take q).all (fun j => dl.contains j)) && dl.contains z)) := Lib.hid (by rw [HTQ.out, Bool.and_assoc])
                  generalize (!cn && (al.take q).all (fun j => dl.contains j)) = p at *
                  generalize dl.contains z = y at *
                  cases p with
                  | true =>
                    go_wp2_with (refine hcall2.mono ?_; rintro e' w' ⟨rfl, rfl⟩)
                    go_roundw
                    case rel => exact ⟨q+1, by omega, by go_num, by rw [HP.out]; simp, by first | trivial | rfl⟩
                    case measure => simp [intOf]; omega
                  | false =>
                    go_wp2_with fail
                    go_roundw
                    case rel => exact ⟨q+1, by omega, by go_num, by rw [HP.out]; simp, by first | trivial | rfl⟩
                    case measure => simp [intOf]; omega
                · have hp : (!cn && (al.take q).all (fun j => dl.contains j)) = r := by rw [List.take_of_length_le (by omega), HOA.out]
                  rw [hp]
                  clear hp
                  cases hr2 : r with
                  | true =>
                    have hkk := HX1.out hr2
                    go_wp2_with fail
                    go_roundw
                    case rel => exact ⟨k+1, by omega, by go_num, by rw [if_neg (by omega), hkk], by first | trivial | rfl⟩
                    case measure => simp [intOf]; omega
                  | false =>
                    have hkk := HX2.out hr2
                    go_wp2_with fail
                    go_roundw
                    case rel => exact ⟨k+1, by omega, by go_num, by rw [if_pos (by omega)], by first | trivial | rfl⟩
                    case measure => simp [intOf]; omega
            · rw [if_neg hkx]
              have e1 := E1.out
              have e2 := E2.out
              have gxx : ((x : Int) != (x : Int)) = false := by simp
              have hBl := fun W' h => (by have := Hlb.out W' h n hlt; rw [HXE.out] at this; exact this : Calls Try.prog 28 #[.agg #[.slice A s.tasks.length c, .slice B s.stations.length d], .int .i64 n] W' (RetInts X W'))
              have HTK2 := Lib.hid HTK.out
              clear hra0 hsh HXO HXM E1 E2
              rcases Nat.lt_or_ge k s.tasks.length with hkN | hkN
              · have gk : (k : Int) < (s.tasks.length : Int) := by omega
                go_wp2_with fail
                go_region_held3 (fun w' => w'.cell? ⟨w.heap.size, 0, none⟩ = some (.slice A s.tasks.length c) ∧ w'.cell? ⟨w.heap.size, 1, none⟩ = some (.slice B s.stations.length d) ∧ w'.cell? ⟨bo, oo + n, none⟩ = some (.int .i64 x) ∧ w'.cell? ⟨bb, ob + n, none⟩ = some (.slice rA X.length rc)) (first | exact ⟨k0'', k1'', e1'', e2''⟩ | exact ⟨k0', k1', e1', e2'⟩ | exact ⟨k0, k1, e1, e2⟩ | go_keep)
                  (first
                    | (go_at_call 28; refine (hBl _ (by first | exact hB.below | exact hB.below.drew | exact below_drewN hB.below _)).mono ?_; rintro e' w8 ⟨lv, rfl, hlo, hb8⟩
                       have hb9 : Below wr.heap.size wr w8 := (by first | exact hb8 | exact ((Below.refl _ wr).drew).trans hb8 | exact (below_drewN (Below.refl _ wr) _).trans hb8)
                       have k0' := (hB.later hb9).c0; have k1' := (hB.later hb9).c1; have e1' := (hb9.cell (show bo < wr.heap.size from hbo)).trans e1; have e2' := (hb9.cell (show bb < wr.heap.size from hbb)).trans e2
                       obtain ⟨lA, lc, rfl, _⟩ := hlo.slice; clear hb8)
                    | (go_at_call 19; refine (law_same (.slice rA X.length rc) (.slice lA X.length lc) _ _ X X w8 (hrow.keep (Agree.below hb9)) hlo.sl).mono ?_; rintro e' w10 ⟨rfl, hd10⟩
                       have hb10 : Below wr.heap.size wr w10 := hb9.trans (hd10.below _)
                       have k0'' := (hB.later hb10).c0; have k1'' := (hB.later hb10).c1; have e1'' := (hb10.cell (show bo < wr.heap.size from hbo)).trans e1; have e2'' := (hb10.cell (show bb < wr.heap.size from hbb)).trans e2
                       rw [ieq_refl X]; clear hd10))
                all_goals
                  have hB8 := hB.later hb10
                  have ho8 := ho.below hb10
                  have hz1 := hb.size
                  have hz2 := hb10.size
                  have hb11 := hb.trans (hb10.mono hz1)
                  have hrow2 : ∀ j, (Value.slice dA dl.length dc).ownBlock = some j → w6.heap.size ≤ j := fun j hj => (ho8.lt j hj).1
                  have hol : (dl.length + 1) * 8 ≤ 140737488355328 := by omega
                  clear k0' k1' e1' e2' k0'' k1'' e1'' e2'' k0 k1 e1 e2 hlo hb9
                  go_wp2_with (at_builtin; go_must (refine Kd.app_at Kd.int w6.heap.size Kd.NoB rfl (.tmp 128) (.tmp 130) 31 3 (.int .i64 0) 8 rfl Try.underlying31 int_info rfl (by decide) (by omega) (.slice dA dl.length dc) dl (x : Int) #[.int .i64 x] rfl _ rfl rfl ⟨rfl, trivial⟩ ho8 hb11.size (fun b hb => hb.elim) hol ?_; intro v1 w11 ho11 hg11 hat11; obtain ⟨nA, nc, rfl, _⟩ := ho11.slice))
                  go_roundw
                  case rel =>
                    rw [List.length_append] at ho11
                    exact ⟨n+1, _, by omega, by go_num, hB8.grown hg11 (fun j hj => by have := hrow2 j hj; omega), ho11, hb11.grown hg11 hb11.size hrow2, Lib.hid HTK2.out.symm⟩
                  case measure => simp [intOf]; omega
              · have gk : ¬ (k : Int) < (s.tasks.length : Int) := by omega
                go_wp2_with fail
                go_region_held3 (fun w' => w'.cell? ⟨w.heap.size, 0, none⟩ = some (.slice A s.tasks.length c) ∧ w'.cell? ⟨w.heap.size, 1, none⟩ = some (.slice B s.stations.length d) ∧ w'.cell? ⟨bo, oo + n, none⟩ = some (.int .i64 x) ∧ w'.cell? ⟨bb, ob + n, none⟩ = some (.slice rA X.length rc)) (first | exact ⟨k0'', k1'', e1'', e2''⟩ | exact ⟨k0', k1', e1', e2'⟩ | exact ⟨k0, k1, e1, e2⟩ | go_keep)
                  (first
                    | (go_at_call 28; refine (hBl _ (by first | exact hB.below | exact hB.below.drew | exact below_drewN hB.below _)).mono ?_; rintro e' w8 ⟨lv, rfl, hlo, hb8⟩
                       have hb9 : Below wr.heap.size wr w8 := (by first | exact hb8 | exact ((Below.refl _ wr).drew).trans hb8 | exact (below_drewN (Below.refl _ wr) _).trans hb8)
                       have k0' := (hB.later hb9).c0; have k1' := (hB.later hb9).c1; have e1' := (hb9.cell (show bo < wr.heap.size from hbo)).trans e1; have e2' := (hb9.cell (show bb < wr.heap.size from hbb)).trans e2
                       obtain ⟨lA, lc, rfl, _⟩ := hlo.slice; clear hb8)
                    | (go_at_call 19; refine (law_same (.slice rA X.length rc) (.slice lA X.length lc) _ _ X X w8 (hrow.keep (Agree.below hb9)) hlo.sl).mono ?_; rintro e' w10 ⟨rfl, hd10⟩
                       have hb10 : Below wr.heap.size wr w10 := hb9.trans (hd10.below _)
                       have k0'' := (hB.later hb10).c0; have k1'' := (hB.later hb10).c1; have e1'' := (hb10.cell (show bo < wr.heap.size from hbo)).trans e1; have e2'' := (hb10.cell (show bb < wr.heap.size from hbb)).trans e2
                       rw [ieq_refl X]; clear hd10))
                all_goals
                  have hB8 := hB.later hb10
                  have ho8 := ho.below hb10
                  have hz1 := hb.size
                  have hz2 := hb10.size
                  have hb11 := hb.trans (hb10.mono hz1)
                  have hrow2 : ∀ j, (Value.slice dA dl.length dc).ownBlock = some j → w6.heap.size ≤ j := fun j hj => (ho8.lt j hj).1
                  have hol : (dl.length + 1) * 8 ≤ 140737488355328 := by omega
                  clear k0' k1' e1' e2' k0'' k1'' e1'' e2'' k0 k1 e1 e2 hlo hb9
                  go_wp2_with (at_builtin; go_must (refine Kd.app_at Kd.int w6.heap.size Kd.NoB rfl (.tmp 128) (.tmp 130) 31 3 (.int .i64 0) 8 rfl Try.underlying31 int_info rfl (by decide) (by omega) (.slice dA dl.length dc) dl (x : Int) #[.int .i64 x] rfl _ rfl rfl ⟨rfl, trivial⟩ ho8 hb11.size (fun b hb => hb.elim) hol ?_; intro v1 w11 ho11 hg11 hat11; obtain ⟨nA, nc, rfl, _⟩ := ho11.slice))
                  go_roundw
                  case rel =>
                    rw [List.length_append] at ho11
                    exact ⟨n+1, _, by omega, by go_num, hB8.grown hg11 (fun j hj => by have := hrow2 j hj; omega), ho11, hb11.grown hg11 hb11.size hrow2, Lib.hid HTK2.out.symm⟩
                  case measure => simp [intOf]; omega
        · by_cases hio : i < 0 ∨ (s.tasks.length : Int) ≤ i
          · have hcc : cc = 2 := by rw [HCC.out, if_pos hio]
            have habl : abl = [] := by rw [HAE.out, if_pos hio]
            subst hcc
            subst habl
            by_cases h0 : i < 0
            · have g1 : decide (i < 0) = true := decide_eq_true h0
              go_wp2_with fail
              go_ret
              exact ⟨rfl, hB.below⟩
            · have g1 : decide (i < 0) = false := decide_eq_false h0
              have g2 : decide ((s.tasks.length : Int) ≤ i) = true := decide_eq_true (by omega)
              go_wp2_with fail
              go_ret
              exact ⟨rfl, hB.below⟩
          · have hcc : cc = 0 := by rw [HCC.out, if_neg hio]
            subst hcc
            obtain ⟨j, rfl⟩ := Int.eq_ofNat_of_zero_le (show 0 ≤ i by omega)
            have hj : j < s.tasks.length := by omega
            have g1 : decide ((j : Int) < 0) = false := decide_eq_false (by omega)
            have g2 : decide ((s.tasks.length : Int) ≤ (j : Int)) = false := decide_eq_false (by omega)
            have hAB := HAE.out
            rw [if_neg hio] at hAB
            simp only [Int.toNat_natCast, List.getElem?_eq_getElem hj, Option.elim_some] at hAB
            have hla := law_able s F _ wr j (hS.out wr hB.below) hj (by omega)
            rw [← hAB] at hla
            have hav := HAV.out.keep (Agree.below hb)
            clear hAB
            go_wp2_with fail
            refine hla.mono ?_
            rintro e w8 ⟨lv, rfl, hlo, hb8⟩
            have hB8 := hB.later hb8
            obtain ⟨lA, lc, rfl, _⟩ := hlo.slice
            go_wp2_with fail
            refine (law_same (.slice aA abl.length ac) (.slice lA abl.length lc) _ _ abl abl w8 (hav.keep (Agree.below hb8)) hlo.sl).mono ?_
            rintro e w9 ⟨rfl, hd9⟩
            rw [ieq_refl]
            go_wp2_with fail
            go_ret
            exact ⟨rfl, (hB8.later (hd9.below _)).below⟩
    · have ge : (checkOf s != 0) = true := by simpa using hc
      go_wp2_with fail
      refine (known_calls w3).mono ?_
      rintro e w4 ⟨rfl, hb4⟩
      go_wp2_with fail
      go_ret
      exact ⟨rfl, (hB3.later hb4).below⟩
end Go.Proofs.Ythigebbihclbiaa
