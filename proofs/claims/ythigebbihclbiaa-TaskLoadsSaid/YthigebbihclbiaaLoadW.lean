/- task.Load, walked. -/
import Derived.Test.YthigebbihclbiaaLoad
namespace Go.Proofs.Ythigebbihclbiaa
open Go.RowKit Go.Maps
set_option maxRecDepth 100000

structure Boxed3 (w wr : World) (a b s : Value) : Prop where
  box : Boxed w wr a b
  c2 : wr.cell? ⟨w.heap.size + 1, 0, none⟩ = some s
  sz : w.heap.size + 1 < wr.heap.size
theorem Boxed3.later {w wr wx : World} {a b s : Value} (h : Boxed3 w wr a b s) (hb : Below wr.heap.size wr wx) : Boxed3 w wx a b s :=
  ⟨h.box.later hb, (hb.cell (show w.heap.size + 1 < _ from h.sz)).trans h.c2, Nat.lt_of_lt_of_le h.sz hb.size⟩
theorem Boxed3.start (w : World) (a b s : Value) (t u : TypeId) : Boxed3 w ((w.alloc (.cells #[a, b] t)).alloc (.cells #[s] u)) a b s :=
  ⟨⟨by go_simp, by go_simp, below_two _ _ _, by simp; omega⟩, by go_simp, by simp⟩

set_option maxHeartbeats 4000000 in
theorem task_load (s : Shop) (st : List Int) (F G : Nat → Prop) (v u : Value) (w : World) (h : ShopAt w F s v) (g : Kd.int.Sl w G st u) (hc : checkOf s = 0) (hsl : st.length ≤ 1000) :
    Calls Try.prog 23 #[v, u] w fun e w' => e = .returned (.tuple #[.int .i64 (loadOf s st), .int .i64 (loadErr s st)]) ∧ Below w.heap.size w w' := by
  obtain ⟨l1, l2, Z, _, Z2, _⟩ := zero_of_check s hc
  have HDU := Lib.hid (durs_of _ Z)
  have HTO := Lib.hid (toolsOk_of _ l2 Z2)
  obtain ⟨v1, v2, rfl, h1, h2⟩ := h
  have hS := Lib.hid (show ∀ W, Below w.heap.size w W → ShopAt W F s (.agg #[v1, v2]) from fun W hW => ⟨v1, v2, rfl, h1.keep (Agree.below hW), h2.keep (Agree.below hW)⟩)
  obtain ⟨A, c, rfl, hc1, hc2, hr⟩ := h1
  obtain ⟨B, d, rfl, hd1, hd2, _⟩ := h2
  have HG := Lib.hid g
  obtain ⟨X, xc, rfl, hx1, hx2, hxr⟩ := g
  have hB := Boxed3.start w (.slice A s.tasks.length c) (.slice B s.stations.length d) (.slice X st.length xc) 25 31
  have HE := Lib.hid (show loadErr s st = if st.length = 0 then 7 else afterErr s.stations.length (-1) none st from rfl)
  have HO := Lib.hid (show loadOf s st = if loadErr s st = 0 then (loadSum s.stations st s.tasks + st.length - 1) / st.length else 0 from rfl)
  have hck := fun W (hW : Below w.heap.size w W) => check_calls s F _ W (hS.out W hW)
  rw [hc] at hck
  generalize loadErr s st = E at *
  generalize loadOf s st = R at *
  clear hc Z Z2
  go_enter Try.func23, Try.ntmps23
  go_upto_region 1 with fail
  generalize (w.alloc _).alloc _ = W at *
  have k0 := hB.box.c0
  have k1 := hB.box.c1
  go_wp2_with fail
  refine (hck _ hB.box.below).mono ?_
  rintro e w1 ⟨rfl, hb1⟩
  have hB1 := hB.later hb1
  clear k0 k1 hb1 hB hck
  have k0 := hB1.box.c0
  have k1 := hB1.box.c1
  have k2 := hB1.c2
  by_cases hz : st.length = 0
  · have hE : E = 7 := by rw [HE.out, if_pos hz]
    have hR : R = 0 := by rw [HO.out, hE]; rfl
    subst hE
    subst hR
    have gz : ((st.length : Int) == 0) = true := by simpa using hz
    clear hz
    go_wp2_with fail
    go_ret2
    exact ⟨rfl, hB1.box.below⟩
  have HE2 := Lib.hid (show E = afterErr s.stations.length (-1) none st by rw [HE.out, if_neg hz])
  have gz : ((st.length : Int) == 0) = false := by simpa using hz
  have hz0 : 0 < st.length := by omega
  have hxr1 := hxr.keep (Agree.below hB1.box.below)
  clear hz
  go_wp2_with fail
  clear gz
  go_loopw [7, 8, 23] (fun _ _ i23 wr => ∃ k : Nat, k ≤ st.length ∧ i23 = .int .i64 k ∧ wr = w1 ∧ Hid (E = afterErr s.stations.length (-1) (prevOf st k) (st.drop k))) (fun _ _ i23 _ => st.length - (intOf i23).toNat)
  case atStart => exact ⟨0, Nat.zero_le _, rfl, rfl, Lib.hid HE2.out⟩
  case round =>
    obtain ⟨k, hk, rfl, rfl, H⟩ := hrel
    by_cases hlt : k < st.length
    · obtain ⟨b5, o5, rfl, _, _, c0⟩ := int_at hxr1 k hlt
      have hlt' : (k : Int) < (st.length : Int) := by omega
      have hprev : 0 < k → ∃ y, wr.cell? ⟨b5, o5 + (k - 1), none⟩ = some (.int .i64 y) ∧ afterErr s.stations.length (-1) (prevOf st k) (st.drop k) = if st[k] < 0 ∨ (s.stations.length : Int) ≤ st[k] then 2 else if st[k] = -1 then 17 else if st[k] ≤ y then 8 else afterErr s.stations.length (-1) (prevOf st (k+1)) (st.drop (k+1)) := fun h0 => by
        obtain ⟨b6, o6, he6, _, _, p1⟩ := int_at hxr1 (k - 1) (by omega)
        obtain ⟨rfl, rfl⟩ : b5 = b6 ∧ o5 = o6 := by simpa using he6
        refine ⟨st[k-1], p1, ?_⟩
        obtain ⟨j, rfl⟩ : ∃ j, k = j + 1 := ⟨k - 1, by omega⟩
        rw [after_step s.stations.length (-1) st j hlt]
        simp [show j < st.length by omega]
      have hfirst : k = 0 → afterErr s.stations.length (-1) (prevOf st k) (st.drop k) = if st[k] < 0 ∨ (s.stations.length : Int) ≤ st[k] then 2 else if st[k] = -1 then 17 else afterErr s.stations.length (-1) (prevOf st (k+1)) (st.drop (k+1)) := fun h0 => after_zero s.stations.length (-1) st k h0 hlt
      generalize st[k] = x at *
      by_cases hx : x < 0 ∨ (s.stations.length : Int) ≤ x
      · have hE : E = 2 := by
          rw [H.out]
          rcases Nat.eq_zero_or_pos k with h0 | h0
          · rw [hfirst h0, if_pos hx]
          · obtain ⟨y, _, e⟩ := hprev h0
            rw [e, if_pos hx]
        have hR : R = 0 := by rw [HO.out, hE]; rfl
        subst hE
        subst hR
        clear hprev hfirst
        by_cases hx0 : x < 0
        · have g1 : decide (x < 0) = true := decide_eq_true hx0
          clear hx
          go_wp2_with fail
          go_ret2
          exact ⟨rfl, hB1.box.below⟩
        · have g1 : decide (x < 0) = false := decide_eq_false hx0
          have g2 : decide ((s.stations.length : Int) ≤ x) = true := decide_eq_true (by omega)
          clear hx
          go_wp2_with fail
          go_ret2
          exact ⟨rfl, hB1.box.below⟩
      · have g1 : decide (x < 0) = false := decide_eq_false (by omega)
        have g2 : decide ((s.stations.length : Int) ≤ x) = false := decide_eq_false (by omega)
        have hx17 : ¬ x = -1 := by omega
        rcases Nat.eq_zero_or_pos k with h0 | h0
        · have HN := Lib.hid (hfirst h0)
          have HX := Lib.hid hx
          have HX17 := Lib.hid hx17
          have g3 : ¬ 0 < k := by omega
          have g4 : decide (0 < k) = false := decide_eq_false g3
          have g5 : decide ((0 : Int) < (k : Int)) = false := decide_eq_false (by omega)
          clear hprev hfirst hx hx17 h0
          go_wp2_with fail
          go_roundw
          case rel => exact ⟨k+1, by omega, by go_num, by first | trivial | rfl, Lib.hid (by rw [H.out, HN.out, if_neg HX.out, if_neg HX17.out])⟩
          case measure => simp [intOf]; omega
        · obtain ⟨y, p1, e⟩ := hprev h0
          have HN := Lib.hid e
          have HX := Lib.hid hx
          have HX17 := Lib.hid hx17
          have g4 : decide (0 < k) = true := decide_eq_true h0
          have g5 : decide ((0 : Int) < (k : Int)) = true := decide_eq_true (by omega)
          have hkl : k - 1 < st.length := by omega
          clear hprev hfirst hx hx17 e
          by_cases hxy : x ≤ y
          · have hE : E = 8 := by rw [H.out, HN.out, if_neg HX.out, if_neg HX17.out, if_pos hxy]
            have hR : R = 0 := by rw [HO.out, hE]; rfl
            subst hE
            subst hR
            have g6 : decide (x ≤ y) = true := decide_eq_true hxy
            go_wp2_with fail
            go_ret2
            exact ⟨rfl, hB1.box.below⟩
          · have g6 : decide (x ≤ y) = false := decide_eq_false hxy
            have HXY := Lib.hid hxy
            clear hxy
            go_wp2_with fail
            go_roundw
            case rel => exact ⟨k+1, by omega, by go_num, by first | trivial | rfl, Lib.hid (by rw [H.out, HN.out, if_neg HX.out, if_neg HX17.out, if_neg HXY.out])⟩
            case measure => simp [intOf]; omega
    · have hE : E = 0 := by rw [H.out, List.drop_of_length_le (by omega)]; cases k <;> rfl
      have HR := Lib.hid (show R = (loadSum s.stations st s.tasks + st.length - 1) / st.length by rw [HO.out, if_pos hE])
      subst hE
      have htc := tools_calls s F _ wr (hS.out wr hB1.box.below) HTO.out
      obtain ⟨w2, rfl⟩ : ∃ w2 : World, w2 = wr := ⟨_, rfl⟩
      go_wp2_with fail
      refine htc.mono ?_
      rintro e w3 ⟨mb, mn, mbase, rfl, hM, hmn, hmb, hmbase, hb3⟩
      have hB3 := hB1.later hb3
      have HMn := Lib.hid hmn
      clear htc hb3 hmn k0 k1 k2 hxr1
      have k0 := hB3.box.c0
      go_wp2_with fail
      clear k0
      go_loopw [10, 12, 54] (fun i10 _ i54 wr => ∃ k : Nat, k ≤ s.tasks.length ∧ i54 = .int .i64 k ∧ i10 = .int .i64 (loadSum s.stations st (s.tasks.take k)) ∧ Boxed3 w wr (.slice A s.tasks.length c) (.slice B s.stations.length d) (.slice X st.length xc) ∧ MapIs wr mbase mb mn (toolsOf s.stations)) (fun _ _ i54 _ => s.tasks.length - (intOf i54).toNat)
      case atStart => exact ⟨0, Nat.zero_le _, rfl, rfl, hB3, hM⟩
      case round =>
        clear hB3 hM hB1
        obtain ⟨k2, hk2, rfl, rfl, hB, hM⟩ := hrel
        have hbd := loadSum_bd s.stations st (s.tasks.take k2) (fun t ht => HDU.out t (List.mem_of_mem_take ht))
        have htl : (s.tasks.take k2).length ≤ 24 := by rw [List.length_take]; omega
        have d1 : 0 ≤ loadSum s.stations st (s.tasks.take k2) := hbd.1
        have d2 : loadSum s.stations st (s.tasks.take k2) ≤ 25165824 := by have := hbd.2; omega
        clear hbd htl
        by_cases hlt2 : k2 < s.tasks.length
        · obtain ⟨b, oo, A1, a1, rfl, _, _, c0, c1, c2, c3, hK⟩ := task_at (hr.keep (Agree.below hB.box.below)) k2 hlt2
          have hlt2' : (k2 : Int) < (s.tasks.length : Int) := by omega
          obtain ⟨_, hts⟩ := Kd.K_tsize hK
          have HSN : Hid (loadSum s.stations st (s.tasks.take (k2+1)) = loadSum s.stations st (s.tasks.take k2) + (if outside s.stations st s.tasks[k2] = true then 0 else s.tasks[k2].dur)) := Lib.hid (by rw [take_succ_at _ _ hlt2, loadSum_snoc])
          have hdt := HDU.out _ (List.getElem_mem hlt2)
          generalize s.tasks[k2] = t at *
          generalize loadSum s.stations st (s.tasks.take k2) = S at *
          have e1 : 1 ≤ t.dur := hdt.1
          have e2 : t.dur ≤ 1048576 := hdt.2
          clear hK hdt
          go_upto_region 19 with fail
          have hbx := below_one wr (.cells #[.string t.name, .int .i64 t.dur, .string t.tool, .slice A1 t.after.length a1] 42)
          have q1 : (wr.alloc (.cells #[.string t.name, .int .i64 t.dur, .string t.tool, .slice A1 t.after.length a1] 42)).cell? ⟨wr.heap.size, 1, none⟩ = some (.int .i64 t.dur) := by go_simp
          have q2 : (wr.alloc (.cells #[.string t.name, .int .i64 t.dur, .string t.tool, .slice A1 t.after.length a1] 42)).cell? ⟨wr.heap.size, 2, none⟩ = some (.string t.tool) := by go_simp
          have hszB : wr.heap.size < (wr.alloc (.cells #[.string t.name, .int .i64 t.dur, .string t.tool, .slice A1 t.after.length a1] 42)).heap.size := by simp
          have hB4 := hB.later hbx
          have hM4 := Lib.hid (hM.below hbx)
          clear hbx hB hM c0 c1 c2 c3
          generalize wr.alloc _ = wB at *
          have HOU := Lib.hid (show outside s.stations st t = (toolsOf s.stations t.tool).any (fun x => !st.contains x) from rfl)
          go_wp2_with (at_lookup; refine map_look _ rfl (.tmp 58) (.tmp 60) 83 rfl Try.underlying83 mbase mb mn (toolsOf s.stations) rfl hM4.out (by have := HMn.out; omega) t.tool rfl hts ?_; intro v ho hzl hback; clear hback; obtain ⟨oA, oc, rfl, _⟩ := ho.slice)
          refine (containsFunc_int _ _ (toolsOf s.stations t.tool) 54 _ _ wB ho.sl eg_load1 (load1 st (w.heap.size + 1) _ _ _ wB hB4.sz hB4.c2 (HG.out.keep (Agree.below hB4.box.below)))).mono ?_
          rintro e w5 ⟨rfl, hb5⟩
          rw [← HOU.out]
          have hB5 := hB4.later hb5
          have hM5 := hM4.out.below hb5
          replace q1 := (hb5.cell (show wr.heap.size < _ from hszB)).trans q1
          clear hb5 q2 ho hzl
          cases hou : outside s.stations st t with
          | true =>
            go_wp2_with fail
            go_roundw
            case rel => exact ⟨k2+1, by omega, by go_num, by rw [HSN.out, hou]; simp, hB5, hM5⟩
            case measure => simp [intOf]; omega
          | false =>
            go_wp2_with fail
            go_roundw
            case rel => exact ⟨k2+1, by omega, by go_num, by rw [HSN.out, hou]; rfl, hB5, hM5⟩
            case measure => simp [intOf]; omega
        · have hR : R = (loadSum s.stations st (s.tasks.take k2) + st.length - 1) / st.length := by rw [HR.out, List.take_of_length_le (by omega)]
          have k2' := hB.c2
          generalize loadSum s.stations st (s.tasks.take k2) = S at *
          subst hR
          go_wp2_with fail
          go_ret2
          exact ⟨rfl, hB.box.below⟩
end Go.Proofs.Ythigebbihclbiaa
