/- task.tails: the plain side and the walk. -/
import Derived.Test.YthigebbihclbiaaLibInt2
import Derived.Test.YthigebbihclbiaaCheck
import Derived.RegionTactic
import Derived.BigRegion
import Derived.Test.YthigebbihclbiaaOrderPub
namespace Go.Proofs.Ythigebbihclbiaa
open Go.RowKit

def durOf (ts : List Task) (i : Int) : Int := match ts[i.toNat]? with | some t => t.dur | none => 0
def afterOf (ts : List Task) (i : Int) : List Int := match ts[i.toNat]? with | some t => t.after | none => []
def geti (l : List Int) (i : Int) : Int := l.getD i.toNat 0
def relax (i : Int) (o : List Int) (k : Int) : List Int := o.set k.toNat (max (geti o k) (geti o i))
def tailStep (ts : List Task) (o : List Int) (i : Int) : List Int := (afterOf ts i).foldl (relax i) (o.set i.toNat (geti o i + durOf ts i))
/-- The tails of the tasks, as the program reckons them. -/
def tailsOf (ts : List Task) : List Int := (orderOf ts).reverse.foldl (tailStep ts) (List.replicate ts.length 0)

def Bd (m : Nat) (o : List Int) : Prop := ∀ x ∈ o, 0 ≤ x ∧ x ≤ m * 1048576
theorem Bd.geti {m : Nat} {o : List Int} (h : Bd m o) (i : Int) : 0 ≤ geti o i ∧ geti o i ≤ m * 1048576 := by
  unfold Go.Proofs.Ythigebbihclbiaa.geti
  by_cases hi : i.toNat < o.length
  · rw [List.getD_eq_getElem?_getD, List.getElem?_eq_getElem hi]
    exact h _ (List.getElem_mem _)
  · rw [List.getD_eq_getElem?_getD, List.getElem?_eq_none (by omega)]
    simp only [Option.getD_none]; omega
theorem Bd.set {m : Nat} {o : List Int} (h : Bd m o) (i : Nat) (x : Int) (hx : 0 ≤ x ∧ x ≤ m * 1048576) : Bd m (o.set i x) := by
  intro y hy
  rcases List.mem_or_eq_of_mem_set hy with hy | rfl
  · exact h y hy
  · exact hx
theorem Bd.more {m : Nat} {o : List Int} (h : Bd m o) : Bd (m + 1) o := fun x hx => by
  have := h x hx
  omega
theorem Bd.relax {m : Nat} {o : List Int} (h : Bd m o) (i k : Int) : Bd m (relax i o k) := by
  have h1 := h.geti k
  have h2 := h.geti i
  exact h.set _ _ (by omega)

theorem order_mem (ts : List Task) : ∀ (f : Nat) (done : List Bool) (out : List Int), (∀ x ∈ out, 0 ≤ x ∧ x < ts.length) → ∀ x ∈ orderGo ts f done out, 0 ≤ x ∧ x < ts.length
  | 0, _, out, h => h
  | f + 1, done, out, h => by
    rw [orderGo]
    split
    · exact h
    · rename_i hn
      refine order_mem ts f _ _ fun x hx => ?_
      rcases List.mem_append.1 hx with hx | hx
      · exact h x hx
      · have := next_le ts done
        simp at hx
        subst hx
        omega
theorem orderOf_mem (ts : List Task) : ∀ x ∈ orderOf ts, 0 ≤ x ∧ x < ts.length := order_mem ts _ _ _ fun _ h => by cases h
theorem order_len (ts : List Task) : ∀ (f : Nat) (done : List Bool) (out : List Int), (orderGo ts f done out).length ≤ out.length + f
  | 0, _, out => by simp [orderGo]
  | f + 1, done, out => by
    rw [orderGo]
    split
    · omega
    · have := order_len ts f (done.set (nextReady ts done) true) (out ++ [(nextReady ts done : Int)])
      simp at this
      omega
theorem orderOf_len (ts : List Task) : (orderOf ts).length ≤ ts.length := by
  have := order_len ts ts.length (List.replicate ts.length false) []
  simpa [orderOf] using this

/-- What holds in the loops of tails. -/
structure TailInv (w wr : World) (a b : Value) (n : Nat) (lv : Value) (l o : List Int) : Prop where
  box : Boxed w wr a b
  out : Kd.int.Own 3 wr w.heap.size Kd.NoB (.slice (some ⟨w.heap.size + 1, 0, none⟩) n n) o
  row : Kd.int.Own 3 wr (w.heap.size + 2) Kd.NoB lv l
  len : o.length = n
theorem TailInv.stored {w wr : World} {a b lv : Value} {n : Nat} {l o : List Int} (h : TailInv w wr a b n lv l o) (k : Nat) (x : Int) : TailInv w (wr.setCell ⟨w.heap.size + 1, k, none⟩ (.int .i64 x)) a b n lv l (o.set k x) := by
  obtain ⟨h1, h2⟩ := h.out.set k x trivial
  refine ⟨⟨h2.cell h.box.c0 (by simp), h2.cell h.box.c1 (by simp), h.box.below.setCell (by simp) _, by simpa [World.setCell] using h.box.size⟩, h1, h.row.grown h2 (.inr fun e => ?_) (fun _ hb => hb.elim), by rw [List.length_set]; exact h.len⟩
  have := (h.row.lt _ e).1
  omega
theorem Drawn.own {α : Type} {d : Kd α} {e : TypeId} {w w' : World} {base : Nat} {F : Nat → Prop} {v : Value} {xs : List α} (hd : Drawn w w') (h : d.Own e w base F v xs) : d.Own e w' base F v xs := h.below (hd.below _)
theorem TailInv.drawn {w wr wx : World} {a b lv : Value} {n : Nat} {l o : List Int} (h : TailInv w wr a b n lv l o) (hd : Drawn wr wx) : TailInv w wx a b n lv l o :=
  ⟨h.box.later (hd.below _), hd.own h.out, hd.own h.row, h.len⟩

set_option maxRecDepth 100000 in
set_option maxHeartbeats 1000000 in
theorem tails_calls (s : Shop) (F : Nat → Prop) (v : Value) (w : World) (h : ShopAt w F s v) (hok : AfterOk s.tasks) (hlen : s.tasks.length ≤ 24) (hdur : ∀ t ∈ s.tasks, 1 ≤ t.dur ∧ t.dur ≤ 1048576) :
    Calls Try.prog 42 #[v] w (RetInts (tailsOf s.tasks) w) := by
  obtain ⟨v1, v2, rfl, h1, h2⟩ := h
  have hS := Lib.hid (show ∀ W, Below w.heap.size w W → ShopAt W F s (.agg #[v1, v2]) from fun W hW => ⟨v1, v2, rfl, h1.keep (Agree.below hW), h2.keep (Agree.below hW)⟩)
  clear h2
  obtain ⟨A, c, rfl, hc1, hc2, hr⟩ := h1
  have hmk := Kd.run_made (Pg := Try.prog) 31 3 (.int .i64 0) 8 Try.underlying31 int_info rfl (by omega) s.tasks.length (by omega)
  have hord := fun W (hW : Below w.heap.size w W) => order_calls s F _ W (hS.out W hW) hok (by omega)
  have HE := Lib.hid (show tailsOf s.tasks = (orderOf s.tasks).reverse.foldl (tailStep s.tasks) (List.replicate s.tasks.length 0) from rfl)
  have hmem := Lib.hid (show ∀ x ∈ (orderOf s.tasks).reverse, 0 ≤ x ∧ x < s.tasks.length from fun x hx => orderOf_mem _ x (by simpa using hx))
  have hol : (orderOf s.tasks).reverse.length ≤ s.tasks.length := by rw [List.length_reverse]; exact orderOf_len _
  generalize tailsOf s.tasks = R at *
  generalize orderOf s.tasks = ol at *
  have HOK := Lib.hid hok
  have HD := Lib.hid hdur
  clear hok hdur
  have hB := Boxed.start w (.slice A s.tasks.length c) v2 25
  go_enter Try.func42, Try.ntmps42
  go_wp2_with fail
  clear hmk
  have hm0 : Kd.int.Own 3 ((w.alloc (.cells #[.slice A s.tasks.length c, v2] 25)).alloc (.cells (madeCells #[.int .i64 0] s.tasks.length) 3)) w.heap.size Kd.NoB (.slice (some ⟨w.heap.size + 1, 0, none⟩) s.tasks.length s.tasks.length) (List.replicate s.tasks.length 0) := by
    have h1 := Kd.Own.made (enc := Value.int .i64) (P := fun _ => True) (h1 := fun _ => rfl) (w.alloc (.cells #[.slice A s.tasks.length c, v2] 25)) w.heap.size 3 0 s.tasks.length trivial (by simp) (by omega)
    rw [show (w.alloc (.cells #[.slice A s.tasks.length c, v2] 25)).heap.size = w.heap.size + 1 by simp] at h1
    exact h1
  refine (hord _ (below_two _ _ _)).mono ?_
  rintro e w1 ⟨lv, rfl, ho, hb1⟩
  have I1 : TailInv w w1 (.slice A s.tasks.length c) v2 s.tasks.length lv ol (List.replicate s.tasks.length 0) :=
    ⟨(hB.later (below_one _ _)).later hb1, hm0.below hb1, ⟨ho.choose, by simpa using ho.choose_spec⟩, List.length_replicate⟩
  clear hord ho hb1 hm0 hB
  go_wp2_with fail
  refine (reverse_int lv _ ol w1 I1.row).mono ?_
  rintro e w2 ⟨rfl, ho2, hg2⟩
  have far : ∀ b, b < w.heap.size + 2 → some b ≠ lv.ownBlock := fun b hb e => by have := (I1.row.lt b e.symm).1; omega
  have I2 : TailInv w w2 (.slice A s.tasks.length c) v2 s.tasks.length lv ol.reverse (List.replicate s.tasks.length 0) :=
    ⟨⟨hg2.cell I1.box.c0 (far w.heap.size (by omega)), hg2.cell I1.box.c1 (far w.heap.size (by omega)), I1.box.below.grown hg2 I1.box.below.size (fun j hj => by have := (I1.row.lt j hj).1; omega), Nat.lt_of_lt_of_le I1.box.size hg2.size⟩,
      I1.out.grown hg2 (.inr (far (w.heap.size + 1) (by omega))) (fun _ hb => hb.elim), ho2, I1.len⟩
  clear I1 hg2 ho2 far
  generalize ol.reverse = l at *
  obtain ⟨lA, lc, rfl, _⟩ := I2.row.slice
  go_wp2_with fail
  go_loopw [6, 8, 19] (fun _ _ i19 wr => ∃ (k : Nat) (o : List Int), k ≤ l.length ∧ i19 = .int .i64 k ∧ TailInv w wr (.slice A s.tasks.length c) v2 s.tasks.length (.slice lA l.length lc) l o ∧ Hid (Bd k o) ∧ Hid (R = (l.drop k).foldl (tailStep s.tasks) o)) (fun _ _ i19 _ => l.length - (intOf i19).toNat)
  case atStart => exact ⟨0, _, Nat.zero_le _, rfl, I2, Lib.hid (fun x hx => by rw [List.eq_of_mem_replicate hx]; omega), Lib.hid HE.out⟩
  case round =>
    clear I2
    obtain ⟨k, o, hk, rfl, I, HB, H⟩ := hrel
    by_cases hlt : k < l.length
    · obtain ⟨h0, h1⟩ := hmem.out l[k] (List.getElem_mem _)
      have S := Lib.hid (show (l.drop k).foldl (tailStep s.tasks) o = (l.drop (k+1)).foldl (tailStep s.tasks) (tailStep s.tasks o l[k]) by rw [List.drop_eq_getElem_cons hlt]; rfl)
      obtain ⟨g2, gc, he, hgb, _⟩ := I.row.form (by omega)
      obtain ⟨rfl, _, rfl⟩ := Value.slice.inj he
      clear he
      obtain ⟨e1, _, _⟩ := I.row.cell k hlt
      have hlt' : (k : Int) < (l.length : Int) := by omega
      generalize l[k] = x at *
      obtain ⟨m, rfl⟩ := Int.eq_ofNat_of_zero_le h0
      have hm : m < s.tasks.length := by omega
      obtain ⟨b, oo, A1, a1, rfl, _, hl1, _, cw1, _, cw3, hK⟩ := task_at hr m hm
      have c1 := (I.box.below.cell (p := ⟨b, oo + m * 4 + 1, none⟩) hl1).trans cw1
      have c3 := (I.box.below.cell (p := ⟨b, oo + m * 4 + 3, none⟩) hl1).trans cw3
      have hl2 : b < wr.heap.size := by have := I.box.below.size; omega
      obtain ⟨e2, e3, _⟩ := I.out.cell m (by rw [I.len]; exact hm)
      have hd := HD.out s.tasks[m] (List.getElem_mem _)
      have ha := HOK.out s.tasks[m] (List.getElem_mem _)
      have k0 := I.box.c0
      have hz := I.box.size
      have hmo : m < o.length := by rw [I.len]; exact hm
      have hbo := HB.out o[m] (List.getElem_mem _)
      have hk24 : (k : Int) ≤ 23 := by omega
      have b1 : 0 ≤ o[m] := hbo.1
      have b2 : o[m] ≤ 24117248 := by have := hbo.2; omega
      have b3 : 1 ≤ s.tasks[m].dur := hd.1
      have b4 : s.tasks[m].dur ≤ 1048576 := hd.2
      have I3 := (I.stored m (o[m] + s.tasks[m].dur)).drawn (Drawn.one (Drawn.refl _))
      have HB3 : Hid (Bd (k+1) (o.set m (o[m] + s.tasks[m].dur))) := Lib.hid (HB.out.more.set m _ ⟨by omega, by have := hbo.2; omega⟩)
      have HT : Hid (tailStep s.tasks o m = s.tasks[m].after.foldl (relax m) (o.set m (o[m] + s.tasks[m].dur))) := Lib.hid (by
        simp [tailStep, afterOf, durOf, geti, hm, I.len])
      go_wp2_with fail
      go_region
      have k0' := I3.box.c0
      clear hbo hd
      have c3' := (I3.box.below.cell (p := ⟨b, oo + m * 4 + 3, none⟩) hl1).trans cw3
      have hA := Kd.K_after hK
      clear hK e1 e2 e3 c1 c3 k0 cw1 cw3
      go_wp2_with fail
      clear k0' c3'
      obtain ⟨A3, a3, he3, ha1, ha2, hra⟩ := hA
      obtain ⟨rfl, _, rfl⟩ := Value.slice.inj he3
      clear he3
      generalize s.tasks[m].after = al at *
      generalize s.tasks[m].dur = dm at *
      go_loopw [8, 42] (fun _ i42 wy => ∃ (j : Nat) (o' : List Int), j ≤ al.length ∧ i42 = .int .i64 j ∧ TailInv w wy (.slice (some ⟨b, oo, none⟩) s.tasks.length c) v2 s.tasks.length (.slice (some ⟨g2, 0, none⟩) l.length lc) l o' ∧ Hid (Bd (k+1) o') ∧ Hid (tailStep s.tasks o m = (al.drop j).foldl (relax m) o')) (fun _ i42 _ => al.length - (intOf i42).toNat)
      case atStart => exact ⟨0, _, Nat.zero_le _, rfl, I3, HB3, HT⟩
      case round =>
        obtain ⟨j, o', hj, rfl, I4, HB4, HT4⟩ := hrel
        obtain ⟨wy, rfl⟩ : ∃ wy : World, wy = wr := ⟨_, rfl⟩
        by_cases hlt2 : j < al.length
        · obtain ⟨q0, q1⟩ := ha al[j] (List.getElem_mem _)
          have S2 := Lib.hid (show (al.drop j).foldl (relax m) o' = (al.drop (j+1)).foldl (relax m) (relax m o' al[j]) by rw [List.drop_eq_getElem_cons hlt2]; rfl)
          obtain ⟨b5, o5, rfl, _, hl5, d0'⟩ := int_at hra j hlt2
          have d0 := (I4.box.below.cell (p := ⟨b5, o5 + j, none⟩) hl5).trans d0'
          have hlt2' : (j : Int) < (al.length : Int) := by omega
          clear d0'
          generalize al[j] = y at *
          obtain ⟨p, rfl⟩ := Int.eq_ofNat_of_zero_le q0
          have hp : p < s.tasks.length := by omega
          have hpo : p < o'.length := by rw [I4.len]; exact hp
          have hmo' : m < o'.length := by rw [I4.len]; exact hm
          obtain ⟨f1, f2, _⟩ := I4.out.cell p hpo
          obtain ⟨f3, f4, _⟩ := I4.out.cell m hmo'
          have I5 := (I4.stored p (max o'[p] o'[m])).drawn (Drawn.one (Drawn.refl _))
          have HR : Hid (relax m o' p = o'.set p (max o'[p] o'[m])) := Lib.hid (by simp [relax, geti, hpo, hmo'])
          have HB5 : Hid (Bd (k+1) (o'.set p (max o'[p] o'[m]))) := Lib.hid (by rw [← HR.out]; exact HB4.out.relax _ _)
          go_wp2_with fail
          go_region
          go_wp2_with fail
          go_roundw
          case rel => exact ⟨j+1, _, by omega, by go_num, I5, HB5, Lib.hid (by rw [HT4.out, S2.out, HR.out])⟩
          case measure => simp [intOf]; omega
        · go_wp2_with fail
          go_roundw
          case rel => exact ⟨k+1, o', by omega, by go_num, I4, HB4, Lib.hid (by rw [H.out, S.out, HT4.out, List.drop_of_length_le (by omega)]; rfl)⟩
          case measure => simp [intOf]; omega
    · go_wp2_with fail
      go_ret
      exact ⟨_, rfl, by rw [H.out, List.drop_of_length_le (by omega)]; exact I.out, I.box.below⟩
end Go.Proofs.Ythigebbihclbiaa

/- task.Tails. -/
namespace Go.Proofs.Ythigebbihclbiaa
open Go.RowKit

def tailsPub (s : Shop) : List Int := if checkOf s = 0 then tailsOf s.tasks else []
theorem durs_of (ts : List Task) (h : errFrom (taskErr ts) ts.length 0 = 0) : ∀ t ∈ ts, 1 ≤ t.dur ∧ t.dur ≤ 1048576 := by
  intro t ht
  obtain ⟨i, hi, rfl⟩ := List.getElem_of_mem ht
  obtain ⟨_, h1, h2, _⟩ := taskErr_after ts i hi (errFrom_zero _ _ _ h i (by omega) (by omega))
  exact ⟨h1, h2⟩

set_option maxHeartbeats 400000 in
theorem task_tails (s : Shop) (F : Nat → Prop) (v : Value) (w : World) (h : ShopAt w F s v) :
    Calls Try.prog 15 #[v] w (RetL (tailsPub s) (checkOf s) w) := by
  obtain ⟨v1, v2, rfl, h1, h2⟩ := h
  have hS := Lib.hid (show ∀ W, Below w.heap.size w W → ShopAt W F s (.agg #[v1, v2]) from fun W hW => ⟨v1, v2, rfl, h1.keep (Agree.below hW), h2.keep (Agree.below hW)⟩)
  have hB := Boxed.start w v1 v2 25
  have hcall := check_calls s F _ _ (hS.out _ hB.below)
  have HR := Lib.hid (show tailsPub s = if checkOf s = 0 then tailsOf s.tasks else [] from rfl)
  by_cases hc : checkOf s = 0
  · obtain ⟨l1, _, Z, _⟩ := zero_of_check s hc
    have HR2 := Lib.hid (HR.out.trans (if_pos hc))
    have hord := fun W (hW : Below w.heap.size w W) => tails_calls s F _ W (hS.out W hW) (afterOk_of _ Z) l1 (durs_of _ Z)
    rw [hc] at hcall ⊢
    clear hc Z h1 h2
    go_enter Try.func15, Try.ntmps15
    go_wp2_with fail
    refine hcall.mono ?_
    rintro e w1 ⟨rfl, hb1⟩
    have hB1 := hB.later hb1
    clear hB hcall hb1
    have k0 := hB1.c0
    have k1 := hB1.c1
    go_wp2_with fail
    refine (hord _ hB1.below).mono ?_
    intro e w2 hr2
    obtain ⟨ov, rfl, ho, hb2⟩ := hr2.sl
    go_wp2_with fail
    go_ret2
    exact ⟨ov, rfl, by rw [HR2.out]; exact sl_up (by decide) ho hB1.below.size, below_then hB1.below hB1.below.size hb2⟩
  · have HR2 := Lib.hid (HR.out.trans (if_neg hc))
    have ge : (checkOf s != 0) = true := by simpa using hc
    generalize checkOf s = cc at *
    clear hc h1 h2
    go_enter Try.func15, Try.ntmps15
    go_wp2_with fail
    refine hcall.mono ?_
    rintro e w1 ⟨rfl, hb1⟩
    have hB1 := hB.later hb1
    go_wp2_with fail
    go_ret2
    exact ⟨_, rfl, by rw [HR2.out]; exact Kd.Sl.nil _ _ _, hB1.below⟩
end Go.Proofs.Ythigebbihclbiaa
