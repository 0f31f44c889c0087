/- Plain bounds for task.Critical. -/
import Derived.Test.YthigebbihclbiaaCritW
import Derived.Laws.EntriesVeiled
namespace Go.Proofs.Ythigebbihclbiaa
open Go.RowKit

theorem foldl_relax_len (i : Int) : ∀ (l o : List Int), (l.foldl (relax i) o).length = o.length
  | [], _ => rfl
  | k :: l, o => by rw [List.foldl_cons, foldl_relax_len i l, relax, List.length_set]
theorem foldl_relax_bd {m : Nat} (i : Int) : ∀ (l o : List Int), Bd m o → Bd m (l.foldl (relax i) o)
  | [], _, h => h
  | k :: l, o, h => by rw [List.foldl_cons]; exact foldl_relax_bd i l _ (h.relax i k)
theorem tailStep_len (ts : List Task) (o : List Int) (i : Int) : (tailStep ts o i).length = o.length := by
  rw [tailStep, foldl_relax_len, List.length_set]
theorem durOf_bd (ts : List Task) (hd : ∀ t ∈ ts, 1 ≤ t.dur ∧ t.dur ≤ 1048576) (i : Int) : 0 ≤ durOf ts i ∧ durOf ts i ≤ 1048576 := by
  unfold durOf
  split
  · rename_i t ht
    have := hd t (List.mem_of_getElem? ht)
    omega
  · omega
theorem tailStep_bd (ts : List Task) (hd : ∀ t ∈ ts, 1 ≤ t.dur ∧ t.dur ≤ 1048576) (m : Nat) (o : List Int) (i : Int) (h : Bd m o) : Bd (m + 1) (tailStep ts o i) := by
  refine foldl_relax_bd i _ _ (h.more.set _ _ ?_)
  have := h.geti i
  have := durOf_bd ts hd i
  omega
theorem tails_fold (ts : List Task) (hd : ∀ t ∈ ts, 1 ≤ t.dur ∧ t.dur ≤ 1048576) : ∀ (l : List Int) (m : Nat) (o : List Int), Bd m o → Bd (m + l.length) (l.foldl (tailStep ts) o) ∧ (l.foldl (tailStep ts) o).length = o.length
  | [], m, o, h => ⟨h, rfl⟩
  | i :: l, m, o, h => by
    obtain ⟨h1, h2⟩ := tails_fold ts hd l (m + 1) (tailStep ts o i) (tailStep_bd ts hd m o i h)
    rw [List.foldl_cons, List.length_cons]
    exact ⟨by rw [show m + (l.length + 1) = m + 1 + l.length by omega]; exact h1, by rw [h2, tailStep_len]⟩
theorem tailsOf_len (ts : List Task) (hd : ∀ t ∈ ts, 1 ≤ t.dur ∧ t.dur ≤ 1048576) : (tailsOf ts).length = ts.length := by
  rw [tailsOf, (tails_fold ts hd _ 0 _ (fun x hx => by rw [List.eq_of_mem_replicate hx]; omega)).2, List.length_replicate]
theorem tailsOf_bd (ts : List Task) (hd : ∀ t ∈ ts, 1 ≤ t.dur ∧ t.dur ≤ 1048576) : Bd ts.length (tailsOf ts) := by
  have h := (tails_fold ts hd (orderOf ts).reverse 0 (List.replicate ts.length 0) (fun x hx => by rw [List.eq_of_mem_replicate hx]; omega)).1
  have hl := orderOf_len ts
  intro x hx
  have := h x hx
  rw [List.length_reverse] at this
  refine ⟨this.1, Int.le_trans this.2 ?_⟩
  omega
theorem foldl_max_bd {m : Nat} : ∀ (l : List Int) (x : Int), Bd m l → (0 ≤ x ∧ x ≤ m * 1048576) → 0 ≤ l.foldl max x ∧ l.foldl max x ≤ m * 1048576
  | [], _, _, h => h
  | y :: l, x, hl, h => by
    have hy := hl y List.mem_cons_self
    exact foldl_max_bd l (max x y) (fun z hz => hl z (List.mem_cons_of_mem _ hz)) (by omega)
theorem maxOf_bd {m : Nat} (l : List Int) (h : Bd m l) : 0 ≤ maxOf l ∧ maxOf l ≤ m * 1048576 := by
  cases l with
  | nil => simp only [maxOf]; omega
  | cons x l => exact foldl_max_bd l x (fun z hz => h z (List.mem_cons_of_mem _ hz)) (h x List.mem_cons_self)

def critLen (s : Shop) : Int := if checkOf s = 0 ∧ s.tasks.length ≠ 0 then maxOf (tailsOf s.tasks) else 0
def critPath (s : Shop) : List Int := if checkOf s = 0 ∧ s.tasks.length ≠ 0 then extendGo s.tasks (tailsOf s.tasks) 100000000 (-1) (maxOf (tailsOf s.tasks)) [] else []

theorem Kd.Own.lower {α : Type} {d : Kd α} {e : TypeId} {w : World} {base base' : Nat} {F : Nat → Prop} {v : Value} {xs : List α} (h : d.Own e w base F v xs) (hb : base' ≤ base) : d.Own e w base' F v xs := by
  obtain ⟨cs, ⟨h0, h1⟩, h2, h3⟩ := h
  refine ⟨cs, ⟨h0, ?_⟩, h2, h3⟩
  rcases h1 with h1 | ⟨g, cap, cur, e1, e2, e3⟩
  · exact .inl h1
  · exact .inr ⟨g, cap, cur, e1, Nat.le_trans hb e2, e3⟩

/-- A length, a path, an error code. -/
def RetC (n : Int) (R : List Int) (c : Int) (w : World) (e : Ending) (w' : World) : Prop := ∃ v, e = .returned (.tuple #[.int .i64 n, v, .int .i64 c]) ∧ Kd.int.Sl w' (fun b => w.heap.size ≤ b) R v ∧ Below w.heap.size w w'
end Go.Proofs.Ythigebbihclbiaa

/- task.Critical. -/
namespace Go.Proofs.Ythigebbihclbiaa
open Go.RowKit

theorem results_tct {P : Program} {fn : Func} {t p u : Tmp} {ty : TypeId} (h : fn.results = #[.tmp t, .cell p ty, .tmp u]) (tmps : Array Value) (w : World) (A : Addr) (v : Value) (hp : tmps.getD p undef = .pointer (some A)) (hl : (loadVar ty A).run P w = .ok v w) :
    (results fn tmps).run P w = .ok (.tuple #[tmps.getD t undef, v, tmps.getD u undef]) w := by
  have hp' : tmps[p]?.getD undef = .pointer (some A) := by simpa using hp
  simp [results, h, hp', asAddr, hl, Sem.run_bind, Result.andThen]

set_option maxRecDepth 100000 in
set_option maxHeartbeats 1000000 in
theorem task_critical (s : Shop) (F : Nat → Prop) (v : Value) (w : World) (h : ShopAt w F s v) :
    Calls Try.prog 16 #[v] w (RetC (critLen s) (critPath s) (checkOf s) w) := by
  obtain ⟨v1, v2, rfl, h1, h2⟩ := h
  have hS := Lib.hid (show ∀ W, Below w.heap.size w W → ShopAt W F s (.agg #[v1, v2]) from fun W hW => ⟨v1, v2, rfl, h1.keep (Agree.below hW), h2.keep (Agree.below hW)⟩)
  obtain ⟨A, c, rfl, hc1, hc2, hr⟩ := h1
  have hB := (Boxed.start w (.slice A s.tasks.length c) v2 25).later (below_one _ (.cells #[.slice none 0 0] 31))
  have hp0 : ((w.alloc (.cells #[.slice A s.tasks.length c, v2] 25)).alloc (.cells #[.slice none 0 0] 31)).cell? ⟨w.heap.size + 1, 0, none⟩ = some (.slice none 0 0) ∧ ((w.alloc (.cells #[.slice A s.tasks.length c, v2] 25)).alloc (.cells #[.slice none 0 0] 31)).frozen? ⟨w.heap.size + 1, 0, none⟩ = false := ⟨by go_simp, by go_simp⟩
  have hcall := check_calls s F _ _ (hS.out _ hB.below)
  have HL := Lib.hid (show critLen s = if checkOf s = 0 ∧ s.tasks.length ≠ 0 then maxOf (tailsOf s.tasks) else 0 from rfl)
  have HP := Lib.hid (show critPath s = if checkOf s = 0 ∧ s.tasks.length ≠ 0 then extendGo s.tasks (tailsOf s.tasks) 100000000 (-1) (maxOf (tailsOf s.tasks)) [] else [] from rfl)
  generalize critLen s = R1 at *
  generalize critPath s = R2 at *
  by_cases hc : checkOf s = 0
  · by_cases hn : s.tasks.length = 0
    · have hL := HL.out.trans (if_neg (fun h => h.2 hn))
      have hP := Lib.hid (HP.out.trans (if_neg (fun h => h.2 hn)))
      subst hL
      rw [hc] at hcall ⊢
      clear hc HL HP h2 hr
      rw [hn] at hcall hp0 hB hc1 ⊢
      clear hn
      go_enter Try.func16, Try.ntmps16
      go_wp2_with fail
      refine hcall.mono ?_
      rintro e w1 ⟨rfl, hb1⟩
      have hB1 := hB.later hb1
      have k0 := hB1.c0
      have k1 := hB1.c1
      have kp := (hb1.cell (show w.heap.size + 1 < _ by simp)).trans hp0.1
      have kf := (hb1.frozen (show w.heap.size + 1 < _ by simp)).trans hp0.2
      clear hB hcall hp0
      go_wp2_with fail
      (try simp only [Exit.inBlock, Exit.then])
      refine bodyPost_ret (results_tct rfl _ _ _ (.slice none 0 0) rfl (by go_simp)) rfl ?_
      exact ⟨_, rfl, by rw [hP.out]; exact Kd.Sl.nil _ _ _, hB1.below.setCell (by simp) _⟩
    · obtain ⟨l1, _, Z, _⟩ := zero_of_check s hc
      have hd := durs_of _ Z
      have hord := fun W (hW : Below w.heap.size w W) => tails_calls s F _ W (hS.out W hW) (afterOk_of _ Z) l1 hd
      have hL := Lib.hid (HL.out.trans (if_pos ⟨hc, hn⟩))
      have hP := Lib.hid (HP.out.trans (if_pos ⟨hc, hn⟩))
      have htl := tailsOf_len s.tasks hd
      have hM := Lib.hid (maxOf_bd _ (tailsOf_bd s.tasks hd))
      have hmax := fun v F' w' h' hh => max_int v F' (tailsOf s.tasks) w' h' hh
      rw [hc] at hcall ⊢
      have hn1 : ((s.tasks.length : Int) == 0) = false := beq_eq_false_iff_ne.2 (by omega)
      generalize maxOf (tailsOf s.tasks) = M at *
      generalize tailsOf s.tasks = tl at *
      have HD := Lib.hid hd
      clear hc HL HP h2 Z hd
      go_enter Try.func16, Try.ntmps16
      go_wp2_with fail
      refine hcall.mono ?_
      rintro e w1 ⟨rfl, hb1⟩
      have hB1 := hB.later hb1
      have k0 := hB1.c0
      have k1 := hB1.c1
      have kp := (hb1.cell (show w.heap.size + 1 < _ by simp)).trans hp0.1
      have kf := (hb1.frozen (show w.heap.size + 1 < _ by simp)).trans hp0.2
      have hz1 : w.heap.size + 2 ≤ w1.heap.size := by have := hb1.size; simpa using this
      clear hB hcall hp0 hb1
      go_wp2_with fail
      refine (hord _ hB1.below).mono ?_
      rintro e w2 ⟨lv, rfl, ho, hb2⟩
      obtain ⟨g, gc, rfl, hg1, hg2⟩ := ho.form (by omega)
      rw [htl] at ho ⊢
      have hB2 := hB1.later hb2
      replace kp := (hb2.cell (show w.heap.size + 1 < _ by omega)).trans kp
      replace kf := (hb2.frozen (show w.heap.size + 1 < _ by omega)).trans kf
      have hz2 := hb2.size
      clear hord k0 k1 hB1 hb2
      have k0 := hB2.c0
      have k1 := hB2.c1
      go_wp2_with fail
      refine (hmax _ _ _ (ho.sl.keep (Agree.below (below_one _ _))) (by omega)).mono ?_
      rintro e w3 ⟨rfl, rfl⟩
      go_wp2_with fail
      have I : ∀ W4, W4 = ((w2.alloc (.cells #[.slice (some ⟨g, 0, none⟩) s.tasks.length gc] 31)).alloc (.cells #[.func (.func 44) #[] #[.pointer (some ⟨w.heap.size, 0, none⟩), .pointer (some ⟨w2.heap.size, 0, none⟩), .pointer (some ⟨w.heap.size + 1, 0, none⟩), .pointer (some ⟨w2.heap.size + 1, 0, none⟩)]] 74)) →
          CritInv w W4 w.heap.size (w.heap.size + 1) w2.heap.size (w2.heap.size + 1) (.slice A s.tasks.length c) (.slice (some ⟨g, 0, none⟩) s.tasks.length gc) (.slice none 0 0) tl [] := by
        rintro W4 rfl
        have hb3 := below_two w2 (.cells #[.slice (some ⟨g, 0, none⟩) s.tasks.length gc] 31) (.cells #[.func (.func 44) #[] #[.pointer (some ⟨w.heap.size, 0, none⟩), .pointer (some ⟨w2.heap.size, 0, none⟩), .pointer (some ⟨w.heap.size + 1, 0, none⟩), .pointer (some ⟨w2.heap.size + 1, 0, none⟩)]] 74)
        exact ⟨below_then hB2.below hB2.below.size hb3, Nat.le_refl _, by omega, by omega, by omega, by simp, (hb3.cell hB2.size).trans k0, by go_simp, (hb3.cell (show w.heap.size + 1 < _ by omega)).trans kp, (hb3.frozen (show w.heap.size + 1 < _ by omega)).trans kf, by go_simp,
          (ho.lower (show w.heap.size ≤ _ by omega)).below hb3, Kd.Own.nil _ _ _ _ _, fun k hk => by have := ho.lt k hk; omega, fun k hk => by simp [Value.ownBlock] at hk⟩
      refine (extend_calls s.tasks tl F w A c g gc w.heap.size (w.heap.size + 1) w2.heap.size (w2.heap.size + 1) hr hc1 htl l1 HD.out 100000000 (-1) M [] _ _ (by have := hM.out; omega) (by simp) (by have := hM.out; omega) (I _ rfl)).mono ?_
      clear I k0 k1 kp kf hB2 ho
      rintro e w4 ⟨rfl, pv', J⟩
      obtain ⟨pA, pc, rfl, _⟩ := J.path.slice
      have kp := J.cp
      have kf := J.fp
      have hz4 : w.heap.size + 1 < w4.heap.size := by have := J.hi; omega
      have hL2 := hL.out
      subst hL2
      rw [← hP.out] at *
      go_wp2_with fail
      go_region
      go_wp2_with fail
      (try simp only [Exit.inBlock, Exit.then])
      refine bodyPost_ret (results_tct rfl _ _ _ (.slice pA R2.length pc) rfl (by go_simp)) rfl ?_
      have gs : w4.grownBy (w4.setCell ⟨w.heap.size + 1, 0, none⟩ (.slice pA R2.length pc)) (some (w.heap.size + 1)) := ⟨rfl, rfl, rfl, by simp [World.setCell], fun k _ hk => Below.heap_setCell _ _ _ _ (fun e => hk (by rw [e]))⟩
      have ho := J.path.grown gs (by
        cases e : (Value.slice pA R2.length pc).ownBlock with
        | none => exact .inl rfl
        | some k => exact .inr (fun e2 => by have := J.plo k e; have := Option.some.inj e2; omega)) (fun _ hb => hb.elim)
      have hb : Below w.heap.size w (w4.setCell ⟨w.heap.size + 1, 0, none⟩ (.slice pA R2.length pc)) := J.below.setCell (by simp) _
      exact ⟨_, rfl, ((Drawn.one (Drawn.refl _)).own ho).sl_to (by decide) (fun _ h => h.elim) (fun b h _ => h), hb.trans ((Drawn.one (Drawn.refl _)).below _)⟩
  · have hL := HL.out.trans (if_neg (fun h => hc h.1))
    have hP := Lib.hid (HP.out.trans (if_neg (fun h => hc h.1)))
    have ge : (checkOf s != 0) = true := by simpa using hc
    subst hL
    generalize checkOf s = cc at *
    clear hc HL HP h2 hr
    go_enter Try.func16, Try.ntmps16
    go_wp2_with fail
    refine hcall.mono ?_
    rintro e w1 ⟨rfl, hb1⟩
    have hB1 := hB.later hb1
    have k0 := hB1.c0
    have k1 := hB1.c1
    have kp := (hb1.cell (show w.heap.size + 1 < _ by simp)).trans hp0.1
    have kf := (hb1.frozen (show w.heap.size + 1 < _ by simp)).trans hp0.2
    clear hB hcall hp0
    go_wp2_with fail
    (try simp only [Exit.inBlock, Exit.then])
    refine bodyPost_ret (results_tct rfl _ _ _ (.slice none 0 0) rfl (by go_simp)) rfl ?_
    exact ⟨_, rfl, by rw [hP.out]; exact Kd.Sl.nil _ _ _, hB1.below.setCell (by simp) _⟩
end Go.Proofs.Ythigebbihclbiaa
