/- The law's tail. -/
import Derived.Test.YthigebbihclbiaaCritFacts
import Derived.Test.YthigebbihclbiaaReach
import Derived.Test.YthigebbihclbiaaLawCheck
namespace Go.Proofs.Ythigebbihclbiaa
open Go.RowKit
set_option maxRecDepth 100000

/-- From the last tasks on: what holds of a task if it holds of all that come right behind it. -/
theorem topo_up {ts : List Task} (hok : AfterOk ts) (hl : (orderOf ts).length = ts.length) (P : Nat → Prop) (h : ∀ k, k < ts.length → (∀ j, j < ts.length → (k : Int) ∈ afterOf ts (j : Int) → P j) → P k) : ∀ k, k < ts.length → P k := by
  have ht := orderOf_topo ts hok
  have hr : ∀ x ∈ (orderOf ts).reverse, 0 ≤ x ∧ x < (ts.length : Int) := fun x hx => orderOf_mem ts x (by simpa using hx)
  have hm : ∀ k, k < ts.length → (k : Int) ∈ (orderOf ts).reverse := fun k hk => by rw [List.mem_reverse]; exact orderOf_all ts hl k hk
  generalize (orderOf ts).reverse = u at *
  have go : ∀ b a : List Int, u = a ++ b → (∀ y ∈ a, P y.toNat) → ∀ y ∈ b, P y.toNat := fun b => by
    induction b with
    | nil => intro _ _ _ y hy; cases hy
    | cons x b ih =>
      intro a e ha y hy
      have ht2 := ht
      rw [e] at ht2
      obtain ⟨t1, t2, t3⟩ := RTopo.drop _ ht2
      have hPx : P x.toNat := by
        obtain ⟨x0, x1⟩ := hr x (by rw [e]; simp)
        obtain ⟨k, rfl⟩ := Int.eq_ofNat_of_zero_le x0
        refine h k (by omega) (fun j hj hk => ?_)
        have hj2 := hm j hj
        rw [e] at hj2
        rcases List.mem_append.1 hj2 with h1 | h1
        · have := ha _ h1; simpa using this
        · rcases List.mem_cons.1 h1 with h1 | h1
          · rw [h1] at hk; exact absurd (t1 _ hk) t2
          · exact absurd (t3.sub _ h1 _ hk) t2
      rcases List.mem_cons.1 hy with rfl | hy
      · exact hPx
      · exact ih (a ++ [x]) (by rw [e]; simp) (fun z hz => by
          rcases List.mem_append.1 hz with h1 | h1
          · exact ha z h1
          · rw [List.mem_singleton.1 h1]; exact hPx) y hy
  intro k hk
  have := go u [] rfl (fun y hy => by cases hy) (k : Int) (hm k hk)
  simpa using this

/-- The greatest tail right behind a task, of those below q. -/
def mostUpto (ts : List Task) (T : List Int) (k : Nat) : Nat → Int
  | 0 => 0
  | q + 1 => if (afterOf ts (q : Int)).contains (k : Int) = true then max (mostUpto ts T k q) (geti T (q : Int)) else mostUpto ts T k q
theorem most_ge (ts : List Task) (T : List Int) (k : Nat) : ∀ q, 0 ≤ mostUpto ts T k q ∧ ∀ i : Nat, i < q → (k : Int) ∈ afterOf ts (i : Int) → geti T (i : Int) ≤ mostUpto ts T k q
  | 0 => ⟨Int.le_refl _, fun i h => absurd h (Nat.not_lt_zero i)⟩
  | q + 1 => by
    obtain ⟨h1, h2⟩ := most_ge ts T k q
    rw [mostUpto]
    split
    · refine ⟨by omega, fun i hi hk => ?_⟩
      by_cases e : i = q
      · subst e; omega
      · have := h2 i (by omega) hk; omega
    · rename_i hn
      refine ⟨h1, fun i hi hk => ?_⟩
      by_cases e : i = q
      · subst e; exact absurd (List.contains_iff_mem.2 hk) hn
      · exact h2 i (by omega) hk
theorem most_le {ts : List Task} {T : List Int} (hT : TailsAre ts T) {k : Nat} (hk : k < ts.length) : ∀ q, q ≤ ts.length → durOf ts (k : Int) + mostUpto ts T k q ≤ geti T (k : Int)
  | 0, _ => by have := hT.own k (by omega) (by omega); simp only [mostUpto]; omega
  | q + 1, hq => by
    have h := most_le hT hk q (by omega)
    rw [mostUpto]
    split
    · rename_i hm
      have := hT.ge k q (by omega) (by omega) (by omega) (by omega) (List.contains_iff_mem.1 hm)
      omega
    · exact h
theorem most_eq {ts : List Task} {T : List Int} (hT : TailsAre ts T) {k : Nat} (hk : k < ts.length) : geti T (k : Int) = durOf ts (k : Int) + mostUpto ts T k ts.length := by
  have h1 := most_le hT hk ts.length (Nat.le_refl _)
  obtain ⟨h2, h3⟩ := most_ge ts T k ts.length
  rcases hT.hit k (by omega) (by omega) with h | ⟨i, i0, i1, ha, h⟩
  · omega
  · obtain ⟨j, rfl⟩ := Int.eq_ofNat_of_zero_le i0
    have := h3 j (by omega) ha
    omega
theorem geti_bd {s : Shop} {T : List Int} (h : CritFacts s T) (k : Nat) : geti T (k : Int) ≤ 25165824 := by
  unfold geti
  by_cases hk : k < T.length
  · have e : T.getD (k : Int).toNat 0 = T[k] := by simp [hk]
    rw [e]
    have h1 := (foldl_max T 0).1.2 T[k] (List.getElem_mem hk)
    rw [h.most] at h1
    have := h.bd.2
    omega
  · have e : T.getD (k : Int).toNat 0 = 0 := by simp [show T.length ≤ k by omega]
    rw [e]; omega

set_option maxHeartbeats 2000000 in
theorem law_tail (s : Shop) (hc : checkOf s = 0) : ∀ k, k < s.tasks.length → ∀ (F : Nat → Prop) (v : Value) (w : World), ShopAt w F s v →
    Calls Try.prog 21 #[v, .int .i64 k] w fun e w' => e = .returned (.int .i64 (geti (tailsPub s) (k : Int))) ∧ Below w.heap.size w w' := by
  obtain ⟨l1, l2, Z, hnl, _⟩ := zero_of_check s hc
  have hlen : (orderOf s.tasks).length = s.tasks.length := by have := orderOf_len s.tasks; omega
  have hok := afterOk_of _ Z
  have hcf := crit_facts s hc
  have HM := Lib.hid (fun k (hk : k < s.tasks.length) => most_eq hcf.are hk)
  have HML := Lib.hid (fun k (hk : k < s.tasks.length) q hq => most_le hcf.are hk q hq)
  have HMG := Lib.hid (fun k q => (most_ge s.tasks (tailsPub s) k q).1)
  have HGB := Lib.hid (fun k => geti_bd hcf k)
  have HDU := Lib.hid hcf.dur
  refine topo_up hok hlen _ fun k hk ih F v w h => ?_
  clear Z hnl hlen hok hcf hc
  obtain ⟨v1, v2, rfl, h1, h2⟩ := h
  have hS := Lib.hid (show ∀ W, Below w.heap.size w W → ShopAt W F s (.agg #[v1, v2]) from fun W hW => ⟨v1, v2, rfl, h1.keep (Agree.below hW), h2.keep (Agree.below hW)⟩)
  have hB := Boxed.start w v1 v2 25
  obtain ⟨A, c, rfl, hc1, hc2, hr⟩ := h1
  obtain ⟨B, d, rfl, _⟩ := h2
  have HIH := Lib.hid ih
  have hk' : (k : Int) < (s.tasks.length : Int) := by omega
  have h0k : (0 : Int) ≤ (k : Int) := by omega
  have HE := Lib.hid (HM.out k hk)
  have HL := Lib.hid (HML.out k hk)
  have HG := Lib.hid (HMG.out k)
  have HB2 := Lib.hid (HGB.out k)
  have hdk := HDU.out _ (List.getElem_mem hk)
  have hdd : durOf s.tasks (k : Int) = s.tasks[k].dur := durOf_lt hk
  generalize tailsPub s = T at *
  clear ih HM HML HMG HDU
  go_enter Try.func21, Try.ntmps21
  go_upto_region 1 with fail
  generalize w.alloc _ = W at *
  go_wp2_with fail
  go_loopw [5, 6] (fun i5 i6 wr => ∃ q : Nat, q ≤ s.tasks.length ∧ i6 = .int .i64 q ∧ i5 = .int .i64 (mostUpto s.tasks T k q) ∧ Boxed w wr (.slice A s.tasks.length c) (.slice B s.stations.length d)) (fun _ i6 _ => s.tasks.length - (intOf i6).toNat)
  case atStart => exact ⟨0, Nat.zero_le _, rfl, rfl, hB⟩
  case round =>
    clear hB
    obtain ⟨q, hq, rfl, rfl, hB⟩ := hrel
    have k0 := hB.c0
    have k1 := hB.c1
    have d1 := HL.out q hq
    have d2 := HG.out q
    have d3 := HB2.out
    by_cases hlt : q < s.tasks.length
    · have hlt' : (q : Int) < (s.tasks.length : Int) := by omega
      obtain ⟨b, o, A1, a1, rfl, _, hl1, _, _, _, c3', hK⟩ := task_at hr q hlt
      have c3 := (hB.below.cell (p := ⟨b, o + q * 4 + 3, none⟩) hl1).trans c3'
      have hA := Kd.K_after (Kd.task.keep (Agree.below hB.below) hK)
      rw [← afterOf_lt hlt] at hA c3
      have HS : Hid (mostUpto s.tasks T k (q+1) = if (afterOf s.tasks (q : Int)).contains (k : Int) = true then max (mostUpto s.tasks T k q) (geti T (q : Int)) else mostUpto s.tasks T k q) := Lib.hid rfl
      have hcall := law_has _ _ _ (k : Int) wr hA
      have HI2 := Lib.hid (fun (e : (afterOf s.tasks (q : Int)).contains (k : Int) = true) => HIH.out q hlt (List.contains_iff_mem.1 e))
      have d4 := HGB.out q
      clear c3' hK hA
      generalize mostUpto s.tasks T k q = m at *
      cases hcn : (afterOf s.tasks (q : Int)).contains (k : Int) with
      | true =>
        have hi := HI2.out hcn F _ wr (hS.out wr hB.below)
        rw [hcn] at hcall
        have HS2 := Lib.hid (HS.out.trans (if_pos hcn))
        go_wp2_with (refine hcall.mono ?_; rintro e' w' ⟨rfl, rfl⟩)
        refine hi.mono ?_
        rintro e w5 ⟨rfl, hb5⟩
        have hB5 := hB.later hb5
        go_wp2_with fail
        go_roundw
        case rel => exact ⟨q+1, by omega, by go_num, by rw [HS2.out], hB5⟩
        case measure => simp [intOf]; omega
      | false =>
        rw [hcn] at hcall
        have HS2 := Lib.hid (HS.out.trans (if_neg (by rw [hcn]; simp)))
        go_wp2_with (refine hcall.mono ?_; rintro e' w' ⟨rfl, rfl⟩)
        go_roundw
        case rel => exact ⟨q+1, by omega, by go_num, by rw [HS2.out], hB⟩
        case measure => simp [intOf]; omega
    · have HR := Lib.hid (show geti T (k : Int) = s.tasks[k].dur + mostUpto s.tasks T k q by rw [HE.out, hdd, show q = s.tasks.length by omega])
      obtain ⟨b, o, A1, a1, rfl, _, hl1, _, c1', _, _, _⟩ := task_at hr k hk
      have c1 := (hB.below.cell (p := ⟨b, o + k * 4 + 1, none⟩) hl1).trans c1'
      have e1 : 1 ≤ s.tasks[k].dur := hdk.1
      have e2 : s.tasks[k].dur ≤ 1048576 := hdk.2
      rw [hdd] at d1
      generalize s.tasks[k].dur = du at *
      generalize mostUpto s.tasks T k q = m at *
      have hw : du + m ≤ 25165824 := by omega
      go_wp2_with fail
      go_ret
      exact ⟨by rw [HR.out]; rfl, hB.below⟩
end Go.Proofs.Ythigebbihclbiaa
