/- The walk of task.Critical's function that calls itself. -/
import Derived.Test.YthigebbihclbiaaCrit
namespace Go.Proofs.Ythigebbihclbiaa
open Go.RowKit

theorem extendGo_hit (ts : List Task) (tl : List Int) (f : Nat) (last left : Int) (p : List Int) (k : Nat) (hk : k < ts.length) (hr : critOk ts tl last left k = true) (hn : ∀ j, j < k → critOk ts tl last left j = false) :
    extendGo ts tl (f + 1) last left p = extendGo ts tl f k (left - ts[k].dur) (p ++ [(k : Int)]) := by
  rw [extendGo, crit_hit ts tl last left k hk hr hn]
  simp [durOf, hk]
theorem extendGo_miss (ts : List Task) (tl : List Int) (f : Nat) (last left : Int) (p : List Int) (hn : ∀ j, j < ts.length → critOk ts tl last left j = false) : extendGo ts tl (f + 1) last left p = p := by
  rw [extendGo, crit_miss ts tl last left hn]

set_option maxRecDepth 100000 in
set_option maxHeartbeats 1000000 in
theorem extend_calls (ts : List Task) (tl : List Int) (F : Nat → Prop) (w : World) (A : Option Addr) (c g gc : Nat) (Bs Bp Bl Be : Nat) (hr : Kd.task.Row w F A ts) (hc1 : ts.length ≤ c) (htl : tl.length = ts.length) (hlen : ts.length ≤ 24)
    (hdur : ∀ t ∈ ts, 1 ≤ t.dur ∧ t.dur ≤ 1048576) :
    ∀ (f : Nat) (last left : Int) (path : List Int) (pv : Value) (wr : World), left.toNat < f → path.length + f ≤ 1000000000 → left ≤ 1000000000 → CritInv w wr Bs Bp Bl Be (.slice A ts.length c) (.slice (some ⟨g, 0, none⟩) ts.length gc) pv tl path →
    Calls Try.prog 44 #[.int .i64 last, .int .i64 left, .pointer (some ⟨Bs, 0, none⟩), .pointer (some ⟨Bl, 0, none⟩), .pointer (some ⟨Bp, 0, none⟩), .pointer (some ⟨Be, 0, none⟩)] wr
      fun e w' => e = .returned (.tuple #[]) ∧ ∃ pv', CritInv w w' Bs Bp Bl Be (.slice A ts.length c) (.slice (some ⟨g, 0, none⟩) ts.length gc) pv' tl (extendGo ts tl f last left path)
  | 0, _, left, _, _, _, h, _, _, _ => absurd h (Nat.not_lt_zero _)
  | f + 1, last, left, path, pv, wr, hf, hp, hl, I => by
    have HI := Lib.hid (extend_calls ts tl F w A c g gc Bs Bp Bl Be hr hc1 htl hlen hdur f)
    have HD := Lib.hid hdur
    have HF := Lib.hid (extendGo_hit ts tl f last left path)
    have HM := Lib.hid (extendGo_miss ts tl f last left path)
    generalize extendGo ts tl (f + 1) last left path = R at *
    have HP := Lib.hid hp
    have HL := Lib.hid hl
    have HL2 := Lib.hid hf
    clear hdur hp hl hf
    obtain ⟨W, rfl⟩ : ∃ W : World, W = wr := ⟨_, rfl⟩
    obtain ⟨pA, pc, rfl, _⟩ := I.path.slice
    have o1 := I.o1; have o2 := I.o2; have o3 := I.o3; have o4 := I.hi
    have ks := I.cs
    go_enter Try.func44, Try.ntmps44
    go_wp2_with fail
    go_loopw [8, 9, 13] (fun _ _ i13 wx => ∃ k : Nat, k ≤ ts.length ∧ i13 = .int .i64 k ∧ Below W.heap.size W wx ∧ Hid (∀ j, j < k → critOk ts tl last left j = false)) (fun _ _ i13 _ => ts.length - (intOf i13).toNat)
    case atStart => exact ⟨0, Nat.zero_le _, rfl, Below.refl _ _, Lib.hid (fun j hj => absurd hj (Nat.not_lt_zero _))⟩
    case round =>
      obtain ⟨k, hk, rfl, hb, N⟩ := hrel
      obtain ⟨wx, rfl⟩ : ∃ wx : World, wx = wr := ⟨_, rfl⟩
      have I' := I.later hb
      have hz := I'.hi
      clear ks
      by_cases hlt : k < ts.length
      · obtain ⟨b, oo, A1, a1, rfl, _, hl1, e0, e1, e2, e3, hK⟩ := task_at (hr.keep (Agree.below I'.below)) k hlt
        have kl := I'.cl
        have hBl : Bl < wx.heap.size := by omega
        have hBp : Bp < wx.heap.size := by omega
        have hBe : Be < wx.heap.size := by omega
        have n1 : ¬ Bp = Be := by omega
        have n2 : ¬ Be = Bp := by omega
        have n3 : ¬ Bp = wx.heap.size := by omega
        have n4 : ¬ wx.heap.size = Bp := by omega
        clear o1 o2 o3 o4
        obtain ⟨q1, q2, _⟩ := I'.row.cell k (by rw [htl]; exact hlt)
        have hgl : g < wx.heap.size := (I'.row.lt g rfl).2
        have hlt' : (k : Int) < (ts.length : Int) := by omega
        have HC : Hid (critOk ts tl last left k = (decide (0 < left) && (decide (tl[k]'(by rw [htl]; exact hlt) = left) && (decide (last < 0) || ts[k].after.contains last)))) := Lib.hid (by
          simp [critOk, geti, afterOf, hlt, htl])
        have hd := HD.out ts[k] (List.getElem_mem _)
        have hA := Kd.K_after hK
        have HN : Hid (critOk ts tl last left k = false → ∀ j, j < k + 1 → critOk ts tl last left j = false) := Lib.hid (fun e j hj => by
          by_cases ej : j = k
          · rw [ej]; exact e
          · exact N.out j (by omega))
        have HF2 := Lib.hid (fun e => HF.out k hlt e N.out)
        clear hK
        generalize htk : (tl[k]'(by rw [htl]; exact hlt)) = tk at *
        clear htk
        generalize ts[k].after = al at *
        generalize ts[k].name = nm at *
        generalize ts[k].tool = tool at *
        generalize ts[k].dur = dm at *
        by_cases p1 : 0 < left
        · by_cases p2 : tk = left
          · subst p2
            have g1 : decide (0 < tk) = true := decide_eq_true p1
            have g2 : (tk == tk) = true := beq_iff_eq.2 rfl
            have far : some wx.heap.size ≠ (Value.slice pA path.length pc).ownBlock := fun e => by have := (I'.path.lt _ e.symm).2; omega
            have hob : (path.length + 1) * 8 ≤ 140737488355328 := by have := HP.out; omega
            have b1 : 1 ≤ dm := hd.1
            have b2 : dm ≤ 1048576 := hd.2
            have b3 : tk ≤ 1000000000 := HL.out
            have kd0 : (wx.alloc (.cells #[.string nm, .int .i64 dm, .string tool, .slice A1 al.length a1] 42)).cell? ⟨wx.heap.size, 1, none⟩ = some (.int .i64 dm) := by go_simp
            have J := I'.later (below_one wx (.cells #[.string nm, .int .i64 dm, .string tool, .slice A1 al.length a1] 42))
            clear hd
            by_cases p3 : last < 0
            · have g3 : decide (last < 0) = true := decide_eq_true p3
              have HR : Hid (critOk ts tl last tk k = true) := Lib.hid (by rw [HC.out, g1, g3]; simp)
              clear HC
              have kp := J.cp
              go_wp2_with (at_builtin; go_must (refine Kd.app_at Kd.int w.heap.size Kd.NoB rfl (.tmp 38) (.tmp 40) 31 3 (.int .i64 0) 8 rfl Try.underlying31 int_info rfl (by decide) (by omega) (.slice pA path.length pc) path (k : Int) #[.int .i64 k] rfl _ (by simp) rfl ⟨rfl, trivial⟩ J.path J.below.size (fun b hb => hb.elim) hob ?_; intro v1 w3 ho hg hat; have kd := hg.cell kd0 far; have hw3 := hg.size; obtain ⟨nA, nc, rfl, _⟩ := ho.slice; obtain ⟨J2, kc, kf, ke⟩ := J.appended ho hg hat rfl; clear ho hat hg))
              clear kp kd0; simp only [List.length_append, List.length_cons, List.length_nil, Nat.zero_add] at J2
              refine (HI.out k (tk - dm) (path ++ [(k : Int)]) _ _ (by have := HL2.out; omega) (by have := HP.out; rw [List.length_append]; simp; omega) (by omega) J2).mono ?_
              rintro e w4 ⟨rfl, pv', J3⟩
              go_wp2_with fail
              first | go_end0 | refine bodyPost_ret (results_none rfl _ _ _) rfl ?_
              exact ⟨rfl, _, by rw [HF2.out HR.out]; exact J3⟩
            · have g3 : decide (last < 0) = false := decide_eq_false p3
              have hcall := contains_int _ F al last _ (hA.keep (Agree.below (below_one wx (.cells #[.string nm, .int .i64 dm, .string tool, .slice A1 al.length a1] 42))))
              have HR0 : Hid (critOk ts tl last tk k = al.contains last) := Lib.hid (by rw [HC.out, g1, g3]; simp)
              clear HC hA
              generalize al.contains last = q at *
              cases q with
              | false =>
                go_wp2_with (refine hcall.mono ?_; rintro e w2 ⟨rfl, hb2⟩)
                go_roundw
                case rel => exact ⟨k+1, by omega, by go_num, below_then hb hb.size (below_then (below_one _ _) (by simp) hb2), Lib.hid (HN.out HR0.out)⟩
                case measure => simp [intOf]; omega
              | true =>
              have HR := HR0
              go_wp2_with (first | (refine hcall.mono ?_; rintro e w2 ⟨rfl, hb2⟩; replace kd0 := (hb2.cell (show wx.heap.size < _ by simp)).trans kd0; replace J := J.later hb2; have kp := J.cp; clear hcall hb2) | (at_builtin; go_must (refine Kd.app_at Kd.int w.heap.size Kd.NoB rfl (.tmp 38) (.tmp 40) 31 3 (.int .i64 0) 8 rfl Try.underlying31 int_info rfl (by decide) (by omega) (.slice pA path.length pc) path (k : Int) #[.int .i64 k] rfl _ (by simp) rfl ⟨rfl, trivial⟩ J.path J.below.size (fun b hb => hb.elim) hob ?_; intro v1 w3 ho hg hat; have kd := hg.cell kd0 far; have hw3 := hg.size; obtain ⟨nA, nc, rfl, _⟩ := ho.slice; obtain ⟨J2, kc, kf, ke⟩ := J.appended ho hg hat rfl; clear ho hat hg)))
              clear kp kd0; simp only [List.length_append, List.length_cons, List.length_nil, Nat.zero_add] at J2
              refine (HI.out k (tk - dm) (path ++ [(k : Int)]) _ _ (by have := HL2.out; omega) (by have := HP.out; rw [List.length_append]; simp; omega) (by omega) J2).mono ?_
              rintro e w4 ⟨rfl, pv', J3⟩
              go_wp2_with fail
              first | go_end0 | refine bodyPost_ret (results_none rfl _ _ _) rfl ?_
              exact ⟨rfl, _, by rw [HF2.out HR.out]; exact J3⟩
          · have g1 : decide (0 < left) = true := decide_eq_true p1
            have g2 : (tk == left) = false := beq_eq_false_iff_ne.2 p2
            have HR : Hid (critOk ts tl last left k = false) := Lib.hid (by rw [HC.out]; simp [p2])
            clear HC p2
            go_wp2_with fail
            go_roundw
            case rel => exact ⟨k+1, by omega, by go_num, below_then hb hb.size (below_one _ _), Lib.hid (HN.out HR.out)⟩
            case measure => simp [intOf]; omega
        · have g1 : decide (0 < left) = false := decide_eq_false p1
          have HR : Hid (critOk ts tl last left k = false) := Lib.hid (by rw [HC.out, g1]; rfl)
          clear HC
          go_wp2_with fail
          go_roundw
          case rel => exact ⟨k+1, by omega, by go_num, below_then hb hb.size (below_one _ _), Lib.hid (HN.out HR.out)⟩
          case measure => simp [intOf]; omega
      · have HR := Lib.hid (HM.out (fun j hj => N.out j (by omega)))
        go_wp2_with fail
        first | go_end0 | refine bodyPost_ret (results_none rfl _ _ _) rfl ?_
        exact ⟨rfl, _, by rw [HR.out]; exact I'⟩
end Go.Proofs.Ythigebbihclbiaa
