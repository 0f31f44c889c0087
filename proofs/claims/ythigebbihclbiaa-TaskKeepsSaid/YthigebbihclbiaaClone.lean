/- slices.DeleteFunc at ints, on a row of the call's own, whatever else the predicate makes. -/
import Derived.Test.YthigebbihclbiaaOrderAll
import Derived.Test.YthigebbihclbiaaLibInt2
import Derived.Lib.SliceRun
namespace Go.Proofs.Ythigebbihclbiaa
open Go.RowKit

theorem Kd.Own.int_cells {base g n cap : Nat} : ∀ (vs : List Int) (o : Nat) (w : World) (xs : List Int), Kd.int.Own 3 w base Kd.NoB (.slice (some ⟨g, 0, none⟩) n cap) xs →
    ∃ ys, ys.length = xs.length ∧ ys.take o = xs.take o ∧ Kd.int.Own 3 (w.setCells g o (vs.map (Value.int .i64))) base Kd.NoB (.slice (some ⟨g, 0, none⟩) n cap) ys ∧ w.grownBy (w.setCells g o (vs.map (Value.int .i64))) (some g)
  | [], _, w, xs, h => ⟨xs, rfl, rfl, h, World.grownBy.refl _ _⟩
  | z :: vs, o, w, xs, h => by
    obtain ⟨k1, k2⟩ := Kd.Own.set (enc := Value.int .i64) (P := fun _ => True) (h1 := fun _ => rfl) h o z trivial
    obtain ⟨ys, e1, e2, e3, e4⟩ := Kd.Own.int_cells vs (o + 1) _ _ k1
    refine ⟨ys, by simpa using e1, ?_, e3, k2.trans e4⟩
    have := congrArg (List.take o) e2
    rw [List.take_take, List.take_take, Nat.min_eq_left (by omega), List.take_set_of_le (Nat.le_refl _)] at this
    exact this
theorem Kd.Own.int_short {w : World} {base g n cap : Nat} {xs : List Int} (h : Kd.int.Own 3 w base Kd.NoB (.slice (some ⟨g, 0, none⟩) n cap) xs) (k : Nat) (hk : k ≤ xs.length) :
    Kd.int.Own 3 w base Kd.NoB (.slice (some ⟨g, 0, none⟩) k cap) (xs.take k) := by
  obtain ⟨cs, h2, h3, h4⟩ := h
  obtain ⟨rfl, _⟩ := Kd.Cs.scal_iff.1 h3
  refine ⟨(xs.take k).map (Value.int .i64), ?_, Kd.Cs.scal_iff.2 ⟨rfl, fun _ _ => trivial⟩, h4⟩
  obtain ⟨e, h5⟩ := h2
  rcases h5 with ⟨he, _⟩ | ⟨g', cap', cur, he, hb, hh, hn, hc, hsz, ht⟩
  · cases he
  · obtain ⟨ha, hn', hc'⟩ := Value.slice.inj he
    cases ha
    cases hc'
    have hlt : (xs.take k).length = k := by rw [List.length_take]; omega
    refine ⟨by simp [Kd.int, Kd.scal], .inr ⟨g, cap, cur, by rw [hlt], hb, hh, by omega, hc, hsz, ?_⟩⟩
    rw [hlt]
    have e1 : (Kd.int).sz = 1 := rfl
    rw [e1, Nat.mul_one] at ht ⊢
    rw [List.map_take, ← ht, List.take_take, Nat.min_eq_left hk]

theorem take_succ_at {α : Type} (xs : List α) (k : Nat) (h : k < xs.length) : xs.take (k + 1) = xs.take k ++ [xs[k]] := by rw [List.take_succ_eq_append_getElem h]

set_option maxHeartbeats 400000 in
theorem indexFunc_first (v : Value) (F : Nat → Prop) (xs : List Int) (g : Nat) (lb : Array Value) (p : Int → Bool) (w : World) (h : Kd.int.Sl w F xs v)
    (eg : ∀ args w, (callFunc g args).run Try.prog w = .ok (.enter g args) w)
    (hp : PredOn g lb (fun W x v => v = .int .i64 x) p xs w) :
    Calls Try.prog 65 #[v, .func (.func g) #[] lb] w fun e w' => ∃ r : Int, e = .returned (.int .i64 r) ∧ Below w.heap.size w w' ∧
      ((r = -1 ∧ ∀ x ∈ xs, p x = false) ∨ ∃ (k : Nat) (hk : k < xs.length), r = (k : Int) ∧ p xs[k] = true ∧ ∀ x ∈ xs.take k, p x = false) := by
  obtain ⟨A, c, rfl, hc1, hc2, hr⟩ := h
  go_enter Try.func65, Try.ntmps65
  go_wp2
  go_loopw [5, 8] (fun _ i wr => ∃ k : Nat, k ≤ xs.length ∧ i = .int .i64 k ∧ Below w.heap.size w wr ∧ Hid (∀ x ∈ xs.take k, p x = false)) (fun _ i _ => xs.length - (intOf i).toNat)
  case atStart => exact ⟨0, Nat.zero_le _, rfl, Below.refl _ _, Lib.hid (fun x hx => by simp at hx)⟩
  case round =>
    obtain ⟨k, hk, rfl, hb, H⟩ := hrel
    by_cases hlt : k < xs.length
    · have hK := hr.keep (Agree.below hb)
      obtain ⟨b, o, rfl, _, _, c0⟩ := int_at hK k hlt
      have hcall := hp wr xs[k] _ (List.getElem_mem _) hb rfl
      clear hp hr hK
      cases hq : p xs[k] with
      | true =>
        rw [hq] at hcall
        have HQ := Lib.hid hq
        clear hq
        go_wp2_with (refine hcall.mono ?_; rintro e w' ⟨rfl, hb'⟩)
        go_ret
        exact ⟨k, rfl, hb.trans (hb'.mono hb.size), .inr ⟨k, hlt, rfl, HQ.out, H.out⟩⟩
      | false =>
        rw [hq] at hcall
        have HQ := Lib.hid hq
        clear hq
        go_wp2_with (refine hcall.mono ?_; rintro e w' ⟨rfl, hb'⟩)
        go_roundw
        case rel =>
          refine ⟨k+1, by omega, by go_num, hb.trans (hb'.mono hb.size), Lib.hid (fun x hx => ?_)⟩
          rw [take_succ_at xs k hlt, List.mem_append] at hx
          rcases hx with hx | hx
          · exact H.out x hx
          · rw [List.mem_singleton.1 hx]; exact HQ.out
        case measure => simp [intOf]; omega
    · go_wp2
      go_ret
      exact ⟨-1, rfl, hb, .inl ⟨rfl, fun x hx => H.out x (by rw [List.take_of_length_le (by omega)]; exact hx)⟩⟩

/-- Where DeleteFunc's loop stands. -/
structure DelInv (p : Int → Bool) (xs : List Int) (i j : Nat) (ys : List Int) : Prop where
  lt : i < j
  le : j ≤ xs.length
  len : ys.length = xs.length
  low : ys.take i = (xs.take j).filter (fun x => !p x)
  high : ys.drop j = xs.drop j
theorem DelInv.start {p : Int → Bool} {xs : List Int} {k : Nat} (hk : k < xs.length) (ht : p xs[k] = true) (hall : ∀ x ∈ xs.take k, p x = false) : DelInv p xs k (k + 1) xs := by
  refine ⟨by omega, by omega, rfl, ?_, rfl⟩
  rw [take_succ_at xs k hk, List.filter_append, List.filter_eq_self.2 (fun x hx => by rw [hall x hx]; rfl)]
  simp [ht]
theorem DelInv.get {p : Int → Bool} {xs ys : List Int} {i j : Nat} (h : DelInv p xs i j ys) (hj : j < xs.length) : ys[j]'(by rw [h.len]; exact hj) = xs[j] := by
  have := congrArg (·[0]?) h.high
  simp only [List.getElem?_drop, Nat.add_zero] at this
  rw [List.getElem?_eq_getElem (by rw [h.len]; exact hj), List.getElem?_eq_getElem hj] at this
  exact Option.some.inj this
theorem DelInv.keep {p : Int → Bool} {xs ys : List Int} {i j : Nat} (h : DelInv p xs i j ys) (hj : j < xs.length) (hq : p xs[j] = false) : DelInv p xs (i + 1) (j + 1) (ys.set i xs[j]) := by
  have hi : i < ys.length := by rw [h.len]; have := h.lt; omega
  refine ⟨by have := h.lt; omega, by omega, by rw [List.length_set]; exact h.len, ?_, ?_⟩
  · rw [take_succ_at _ i (by simpa using hi), List.take_set_of_le (Nat.le_refl _), h.low, take_succ_at xs j hj, List.filter_append]
    simp [hq]
  · have := congrArg (List.drop 1) h.high
    rw [List.drop_drop, List.drop_drop] at this
    rw [List.drop_set_of_lt (by have := h.lt; omega)]
    exact this
theorem DelInv.skip {p : Int → Bool} {xs ys : List Int} {i j : Nat} (h : DelInv p xs i j ys) (hj : j < xs.length) (hq : p xs[j] = true) : DelInv p xs i (j + 1) ys := by
  refine ⟨by have := h.lt; omega, by omega, h.len, ?_, ?_⟩
  · rw [h.low, take_succ_at xs j hj, List.filter_append]
    simp [hq]
  · have := congrArg (List.drop 1) h.high
    rw [List.drop_drop, List.drop_drop] at this
    exact this

set_option maxRecDepth 100000 in
set_option maxHeartbeats 1000000 in
theorem deleteFunc_int (v : Value) (base : Nat) (xs : List Int) (g : Nat) (lb : Array Value) (p : Int → Bool) (w : World) (h : Kd.int.Own 3 w base Kd.NoB v xs)
    (eg : ∀ args w, (callFunc g args).run Try.prog w = .ok (.enter g args) w)
    (hp : ∀ (W : World) (x : Int), x ∈ xs → w.grownBy W v.ownBlock → Calls Try.prog g (#[.int .i64 x] ++ lb) W fun e w' => e = .returned (.bool (p x)) ∧ Below W.heap.size W w') :
    Calls Try.prog 47 #[v, .func (.func g) #[] lb] w fun e w' => ∃ v', e = .returned v' ∧ Kd.int.Own 3 w' base Kd.NoB v' (xs.filter (fun x => !p x)) ∧ w.grownBy w' v.ownBlock ∧ v'.ownBlock = v.ownBlock := by
  have hIF := indexFunc_first v _ xs g lb p w h.sl eg (fun W x v' hx hb hv => by subst hv; exact hp W x hx (Kd.grownBy_of_below hb _))
  have hpost : ∀ w1, Below w.heap.size w w1 → (∀ x ∈ xs, p x = false) → ∃ v', (Ending.returned v) = .returned v' ∧ Kd.int.Own 3 w1 base Kd.NoB v' (xs.filter (fun x => !p x)) ∧ w.grownBy w1 v.ownBlock ∧ v'.ownBlock = v.ownBlock := fun w1 hb hall =>
    ⟨v, rfl, by rw [List.filter_eq_self.2 (fun x hx => by rw [hall x hx]; rfl)]; exact h.below hb, Kd.grownBy_of_below hb _, rfl⟩
  have HP := Lib.hid hp
  have HPO := Lib.hid hpost
  have HH := Lib.hid h
  obtain ⟨A, c, rfl, hx64⟩ := h.slice
  clear hp hpost h
  go_enter Try.func47, Try.ntmps47
  go_wp2_with fail
  refine hIF.mono ?_
  rintro e w1 ⟨r, rfl, hb1, hr⟩
  clear hIF
  rcases hr with ⟨rfl, hall⟩ | ⟨k0, hk0, rfl, ht, hall⟩
  · have HA := Lib.hid hall
    clear hall
    go_wp2_with fail
    go_ret
    exact HPO.out w1 hb1 HA.out
  · have HD := Lib.hid (DelInv.start hk0 ht hall)
    have hown := HH.out.below hb1
    have hg1 : w.grownBy w1 (Value.slice A xs.length c).ownBlock := Kd.grownBy_of_below hb1 _
    obtain ⟨b, cap, he, hbb, hbl⟩ := HH.out.form (by omega)
    obtain ⟨rfl, -, rfl⟩ := Value.slice.inj he
    clear he hall ht HPO
    have hne1 : ((k0 : Int) == -1) = false := beq_eq_false_iff_ne.2 (by omega)
    go_wp2_with fail
    go_loopw [5, 6, 7] (fun i5 i6 _ wr => ∃ (i j : Nat) (ys : List Int), i5 = .int .i64 i ∧ i6 = .int .i64 j ∧ Hid (DelInv p xs i j ys) ∧ Kd.int.Own 3 wr base Kd.NoB (.slice (some ⟨b, 0, none⟩) xs.length c) ys ∧ w.grownBy wr (some b)) (fun _ i6 _ _ => xs.length - (intOf i6).toNat)
    case atStart => exact ⟨k0, k0 + 1, xs, rfl, by go_num, HD, hown, hg1⟩
    case round =>
      clear hown hg1 HD hk0 hne1
      obtain ⟨i, j, ys, rfl, rfl, HD, hown, hg⟩ := hrel
      have hij := HD.out.lt
      have hjn := HD.out.le
      have hyl := HD.out.len
      by_cases hlt : j < xs.length
      · have hltz : (j : Int) < (xs.length : Int) := by omega
        have hjy : j < ys.length := by omega
        have hiy : i < ys.length := by omega
        obtain ⟨cj, _, _⟩ := hown.cell j hjy
        obtain ⟨ci, fi, _⟩ := hown.cell i hiy
        rw [HD.out.get hlt] at cj
        have hcall := HP.out wr xs[j] (List.getElem_mem _) hg
        obtain ⟨s1, s2⟩ := Kd.Own.set (enc := Value.int .i64) (P := fun _ => True) (h1 := fun _ => rfl) hown i xs[j] trivial
        generalize ys[i] = old at *
        cases hq : p xs[j] with
        | false =>
          have HD2 := Lib.hid (HD.out.keep hlt hq)
          rw [hq] at hcall
          clear hq
          generalize xs[j] = x at *
          clear hyl
          go_wp2_with fail
          refine hcall.mono ?_
          rintro e w2 ⟨rfl, hb2⟩
          have hown2 := hown.below hb2
          obtain ⟨ci2, fi2, _⟩ := hown2.cell i hiy
          obtain ⟨s3, s4⟩ := Kd.Own.set (enc := Value.int .i64) (P := fun _ => True) (h1 := fun _ => rfl) hown2 i x trivial
          have hg2 : w.grownBy w2 (some b) := hg.trans (Kd.grownBy_of_below hb2 _)
          clear ci fi s1 s2 cj
          go_wp2_with fail
          go_roundw
          case rel => exact ⟨i+1, j+1, _, by go_num, by go_num, HD2, s3, hg2.trans s4⟩
          case measure => simp [intOf]; omega
        | true =>
          have HD2 := Lib.hid (HD.out.skip hlt hq)
          rw [hq] at hcall
          clear hq s1 s2 ci fi hyl
          generalize xs[j] = x at *
          go_wp2_with fail
          refine hcall.mono ?_
          rintro e w2 ⟨rfl, hb2⟩
          have hown2 := hown.below hb2
          have hg2 : w.grownBy w2 (some b) := hg.trans (Kd.grownBy_of_below hb2 _)
          clear cj
          go_wp2_with fail
          go_roundw
          case rel => exact ⟨i, j+1, ys, rfl, by go_num, HD2, hown2, hg2⟩
          case measure => simp [intOf]; omega
      · obtain rfl : j = xs.length := by omega
        have hltz : ¬ (xs.length : Int) < (xs.length : Int) := by omega
        have hcl : ∀ ty, (Builtin.clear_ #[31] ty #[.slice (some ⟨b, 0 + i, none⟩) (xs.length - i) (c - i)]).run Try.prog wr = .ok (.tuple #[]) (wr.setCells b (0 + i) (List.replicate (xs.length - i) (.int .i64 0))) :=
          fun ty => Lib.run_clear_slice wr _ _ ty _ Try.underlying31 Try.zeroValue3 rfl rfl b (0 + i) _ _ (by omega) (fun t ht => by rw [show 0 + i + t = i + t by omega, (hown.cell (i + t) (by omega)).1]; rfl) (fun t ht => by rw [show 0 + i + t = i + t by omega]; exact (hown.cell (i + t) (by omega)).2.1)
        have hcap : xs.length ≤ c := by
          obtain ⟨cs, ⟨_, h5⟩, _⟩ := hown
          rcases h5 with ⟨he, _⟩ | ⟨g', cap', cur, he, _, _, hn, _⟩
          · cases he
          · obtain ⟨-, h6, rfl⟩ := Value.slice.inj he
            omega
        have hcap2 : c ≤ 9223372036854775807 := by
          obtain ⟨cs, ⟨_, h5⟩, _⟩ := hown
          rcases h5 with ⟨he, _⟩ | ⟨g', cap', cur, he, _, _, _, hm, _⟩
          · cases he
          · obtain ⟨-, -, rfl⟩ := Value.slice.inj he
            simpa [maxLen] using hm
        have hil : i < xs.length := hij
        have hic : ¬ c = i := by omega
        obtain ⟨zs, z1, z2, z3, z4⟩ := Kd.Own.int_cells (List.replicate (xs.length - i) 0) i wr ys hown
        rw [List.map_replicate] at z3 z4
        have z5 := z3.int_short i (by omega)
        rw [z2, HD.out.low, List.take_of_length_le (Nat.le_refl _)] at z5
        have HG := Lib.hid (hg.trans z4)
        simp only [Nat.zero_add] at hcl
        clear hyl
        go_wp2_with fail
        go_ret
        exact ⟨_, rfl, z5, HG.out, rfl⟩
end Go.Proofs.Ythigebbihclbiaa

/- slices.Clone at ints and strings. -/
namespace Go.Proofs.Ythigebbihclbiaa
open Go.RowKit

theorem Kd.row_news {α : Type} {enc : α → Value} {P : α → Prop} {h1 : ∀ x, (enc x).oneCell' = true} {w : World} {F : Nat → Prop} {ad : Addr} {xs : List α} (h : (Kd.scal enc P h1).Row w F (some ad) xs) (o : Obj) :
    ∀ j u, (xs.map enc)[j]? = some u → (w.alloc o).cell? (ad.add j) = some u := by
  intro j u hj
  obtain ⟨hlt, he⟩ := List.getElem?_eq_some_iff.1 hj
  rw [List.length_map] at hlt
  obtain ⟨b, o', cs, hA, _, ⟨rfl, _⟩, hc⟩ := h j hlt
  obtain rfl := Option.some.inj hA
  rw [List.getElem_map] at he
  subst he
  have := hc 0 _ rfl
  have ha : (⟨b, o', none⟩ : Addr).add j = ⟨b, o' + (j * 1 + 0), none⟩ := by unfold Addr.add; split <;> simp_all
  rw [ha]
  exact Lib.cell?_alloc_some _ this
theorem Kd.row_none {α : Type} {d : Kd α} {w : World} {F : Nat → Prop} {xs : List α} (h : d.Row w F none xs) : xs = [] := by
  cases xs with
  | nil => rfl
  | cons x xs =>
    obtain ⟨b, o, cs, hA, _⟩ := h 0 (by simp)
    cases hA
theorem Kd.row_all {α : Type} {enc : α → Value} {P : α → Prop} {h1 : ∀ x, (enc x).oneCell' = true} {w : World} {F : Nat → Prop} {A : Option Addr} {xs : List α} (h : (Kd.scal enc P h1).Row w F A xs) : ∀ x ∈ xs, P x := by
  intro x hx
  obtain ⟨i, hi, rfl⟩ := List.getElem_of_mem hx
  obtain ⟨b, o', cs, hA, _, ⟨_, hP⟩, hc⟩ := h i hi
  exact hP
theorem string_info : (Try.prog.info? 9).map (fun i => (i.zero, i.size, i.bytes)) = some (some (.string ⟨#[]⟩), 1, 16) := by kernel_rfl

set_option maxHeartbeats 1000000 in
theorem clone_int (v : Value) (F : Nat → Prop) (xs : List Int) (w : World) (h : Kd.int.Sl w F xs v) (hl : xs.length ≤ 1000000) :
    Calls Try.prog 48 #[v] w fun e w' => ∃ v', e = .returned v' ∧ Kd.int.Own 3 w' w.heap.size Kd.NoB v' xs ∧ Below w.heap.size w w' := by
  obtain ⟨A, c, rfl, hc1, hc2, hr⟩ := h
  cases A with
  | none =>
    obtain rfl := Kd.row_none hr
    refine (AnyE.slices_Clone_nil Try.laysCloneInt _ c w).mono ?_
    rintro e w' ⟨rfl, rfl⟩
    exact ⟨_, rfl, Kd.Own.nil _ _ _ _ _, Below.refl _ _⟩
  | some ad =>
    have q22 : ∀ (w : World) (a : Option Addr) (n c n' c' : Nat), (binOp .eql 31 (.slice a n c) (.slice none n' c')).run Try.prog w = .ok (.bool a.isNone) w := fun w a n c n' c' => Lib.run_eql_slice_nil w _ _ a n c n' c' Try.underlying31
    have HN := Lib.hid (Kd.row_news (enc := Value.int .i64) hr (.cells #[] 3))
    have HP := Lib.hid (Kd.row_all (enc := Value.int .i64) hr)
    obtain ⟨i0, hi, hzz⟩ := Option.map_eq_some_iff.1 int_info
    simp only [Prod.mk.injEq] at hzz
    obtain ⟨hz0, hz1, hz2⟩ := hzz
    clear hr
    go_enter Try.func48, Try.ntmps48
    go_wp2_with (at_builtin; refine wpList_append_own_at _ rfl _ _ 31 rfl w.heap.size 3 i0 _ 1 8 Try.underlying31 hi hz0 hz1 hz2 rfl (by decide) _ _ _ rfl (World.ownsRow_made w #[] 0 (Nat.le_refl _) (Nat.zero_le _) (by simp)) ad xs.length c (xs.map (Value.int .i64)) rfl ?qc1 ?qc2 ?qc3 ?qc4 ?qc5 ?qc6 ?_)
    case qc1 => simp
    case qc2 => exact HN.out
    case qc3 => intro u hu; obtain ⟨x, _, rfl⟩ := List.mem_map.1 hu; rfl
    case qc4 => simp only [maxLen]; omega
    case qc5 => omega
    case qc6 => simp
    intro v' w1 hown hgrow hnil _
    go_wp2
    go_ret
    refine ⟨v', rfl, ⟨_, by simpa [Kd.int, Kd.scal] using hown, Kd.Cs.scal_iff.2 ⟨by simp, HP.out⟩, fun _ hb => hb.elim⟩, ?_⟩
    exact ((Below.refl _ w).alloc (Nat.le_refl _) _).grown hgrow (by simp) (by intro k hk; simp [Value.ownBlock] at hk; omega)

set_option maxHeartbeats 1000000 in
theorem clone_str (v : Value) (F : Nat → Prop) (xs : List ByteArray) (w : World) (h : Kd.string.Sl w F xs v) (hl : xs.length ≤ 1000000) :
    Calls Try.prog 52 #[v] w fun e w' => ∃ v', e = .returned v' ∧ Kd.string.Own 9 w' w.heap.size Kd.NoB v' xs ∧ Below w.heap.size w w' := by
  obtain ⟨A, c, rfl, hc1, hc2, hr⟩ := h
  cases A with
  | none =>
    obtain rfl := Kd.row_none hr
    refine (AnyE.slices_Clone_nil Try.laysCloneStr _ c w).mono ?_
    rintro e w' ⟨rfl, rfl⟩
    exact ⟨_, rfl, Kd.Own.nil _ _ _ _ _, Below.refl _ _⟩
  | some ad =>
    have q22 : ∀ (w : World) (a : Option Addr) (n c n' c' : Nat), (binOp .eql 57 (.slice a n c) (.slice none n' c')).run Try.prog w = .ok (.bool a.isNone) w := fun w a n c n' c' => Lib.run_eql_slice_nil w _ _ a n c n' c' Try.underlying57
    have HN := Lib.hid (Kd.row_news (enc := Value.string) hr (.cells #[] 9))
    have HP := Lib.hid (Kd.row_all (enc := Value.string) hr)
    obtain ⟨i0, hi, hzz⟩ := Option.map_eq_some_iff.1 string_info
    simp only [Prod.mk.injEq] at hzz
    obtain ⟨hz0, hz1, hz2⟩ := hzz
    clear hr
    go_enter Try.func52, Try.ntmps52
    go_wp2_with (at_builtin; refine wpList_append_own_at _ rfl _ _ 57 rfl w.heap.size 9 i0 _ 1 16 Try.underlying57 hi hz0 hz1 hz2 rfl (by decide) _ _ _ rfl (World.ownsRow_made w #[] 0 (Nat.le_refl _) (Nat.zero_le _) (by simp)) ad xs.length c (xs.map (Value.string)) rfl ?qc1 ?qc2 ?qc3 ?qc4 ?qc5 ?qc6 ?_)
    case qc1 => simp
    case qc2 => exact HN.out
    case qc3 => intro u hu; obtain ⟨x, _, rfl⟩ := List.mem_map.1 hu; rfl
    case qc4 => simp only [maxLen]; omega
    case qc5 => omega
    case qc6 => simp
    intro v' w1 hown hgrow hnil _
    go_wp2
    go_ret
    refine ⟨v', rfl, ⟨_, by simpa [Kd.string, Kd.scal] using hown, Kd.Cs.scal_iff.2 ⟨by simp, HP.out⟩, fun _ hb => hb.elim⟩, ?_⟩
    exact ((Below.refl _ w).alloc (Nat.le_refl _) _).grown hgrow (by simp) (by intro k hk; simp [Value.ownBlock] at hk; omega)
end Go.Proofs.Ythigebbihclbiaa
