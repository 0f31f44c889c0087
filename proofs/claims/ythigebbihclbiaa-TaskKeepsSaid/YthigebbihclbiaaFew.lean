/- The law's Few. -/
import Derived.Test.YthigebbihclbiaaKnown
namespace Go.Proofs.Ythigebbihclbiaa
open Go.RowKit

def fewTask (t : Task) : Bool := decide (t.after.length ≤ 10 ∧ t.name.size ≤ 50 ∧ t.tool.size ≤ 50)
def fewStation (x : Station) : Bool := decide (x.tools.length ≤ 5 ∧ x.name.size ≤ 50 ∧ ∀ t ∈ x.tools, t.size ≤ 50)
def fewOf (s : Shop) : Bool := decide (s.tasks.length ≤ 8 ∧ s.stations.length ≤ 4) && (s.tasks.all fewTask && s.stations.all fewStation)

set_option maxRecDepth 100000 in
set_option maxHeartbeats 2000000 in
theorem few_calls (s : Shop) (F : Nat → Prop) (v : Value) (w : World) (h : ShopAt w F s v) :
    Calls Try.prog 11 #[v] w fun e w' => e = .returned (.bool (fewOf s)) ∧ Below w.heap.size w w' := by
  obtain ⟨v1, v2, rfl, h1, h2⟩ := h
  have hB := Boxed.start w v1 v2 25
  obtain ⟨A, c, rfl, hc1, hc2, hr⟩ := h1
  obtain ⟨B, d, rfl, hd1, hd2, hs⟩ := h2
  replace hr := hr.keep (Agree.below hB.below)
  replace hs := hs.keep (Agree.below hB.below)
  have HE := Lib.hid (show fewOf s = (decide (s.tasks.length ≤ 8 ∧ s.stations.length ≤ 4) && (s.tasks.all fewTask && s.stations.all fewStation)) from rfl)
  generalize fewOf s = R at *
  go_enter Try.func11, Try.ntmps11
  go_upto_region 1 with fail
  generalize w.alloc (.cells #[.slice A s.tasks.length c, .slice B s.stations.length d] 25) = W at *
  have k0 := hB.c0
  have k1 := hB.c1
  by_cases p1 : 8 < s.tasks.length
  · have q1 : decide ((8 : Int) < (s.tasks.length : Int)) = true := decide_eq_true (by omega)
    go_wp2_with fail
    go_ret
    exact ⟨by rw [HE.out]; simp; omega, hB.below⟩
  by_cases p2 : 4 < s.stations.length
  · have q1 : decide ((8 : Int) < (s.tasks.length : Int)) = false := decide_eq_false (by omega)
    have q2 : decide ((4 : Int) < (s.stations.length : Int)) = true := decide_eq_true (by omega)
    go_wp2_with fail
    go_ret
    exact ⟨by rw [HE.out]; simp; omega, hB.below⟩
  have HE2 := Lib.hid (show R = (s.tasks.all fewTask && s.stations.all fewStation) by rw [HE.out]; simp; omega)
  have q1 : decide ((8 : Int) < (s.tasks.length : Int)) = false := decide_eq_false (by omega)
  have q2 : decide ((4 : Int) < (s.stations.length : Int)) = false := decide_eq_false (by omega)
  go_wp2_with fail
  clear q1 q2 HE
  go_loopw [3] (fun i3 wr => ∃ k : Nat, k ≤ s.tasks.length ∧ i3 = .int .i64 k ∧ wr = W ∧ Hid (s.tasks.all fewTask = (s.tasks.drop k).all fewTask)) (fun i3 _ => s.tasks.length - (intOf i3).toNat)
  case atStart => exact ⟨0, Nat.zero_le _, rfl, rfl, Lib.hid rfl⟩
  case round =>
    obtain ⟨k, hk, rfl, rfl, H⟩ := hrel
    by_cases hlt : k < s.tasks.length
    · obtain ⟨b, oo, A1, a1, rfl, _, _, c0, _, c2, c3, hK⟩ := task_at hr k hlt
      obtain ⟨n1, n2⟩ := Kd.K_tsize hK
      obtain ⟨_, _, he, _, hmx, _⟩ := Kd.K_after hK
      have hal : s.tasks[k].after.length ≤ 9223372036854775807 := by
        obtain ⟨-, -, rfl⟩ := Value.slice.inj he
        omega
      clear he hmx hK
      have S : Hid ((s.tasks.drop k).all fewTask = (fewTask s.tasks[k] && (s.tasks.drop (k+1)).all fewTask)) := Lib.hid (by rw [List.drop_eq_getElem_cons hlt, List.all_cons])
      have hlt' : (k : Int) < (s.tasks.length : Int) := by omega
      generalize s.tasks[k] = t at *
      obtain ⟨nm, du, tl, al⟩ := t
      simp only at c0 c2 c3 n1 n2 hal
      by_cases p3 : 10 < al.length
      · have q3 : decide ((10 : Int) < (al.length : Int)) = true := decide_eq_true (by omega)
        have S2 : R = false := by rw [HE2.out, H.out, S.out]; simp [fewTask]; omega
        subst S2
        go_wp2_with fail
        go_ret
        exact ⟨rfl, hB.below⟩
      have q3 : decide ((10 : Int) < (al.length : Int)) = false := decide_eq_false (by omega)
      by_cases p4 : 50 < nm.size
      · have q4 : decide ((50 : Int) < (nm.size : Int)) = true := decide_eq_true (by omega)
        have S2 : R = false := by rw [HE2.out, H.out, S.out]; simp [fewTask]; omega
        subst S2
        go_wp2_with fail
        go_ret
        exact ⟨rfl, hB.below⟩
      have q4 : decide ((50 : Int) < (nm.size : Int)) = false := decide_eq_false (by omega)
      by_cases p5 : 50 < tl.size
      · have q5 : decide ((50 : Int) < (tl.size : Int)) = true := decide_eq_true (by omega)
        have S2 : R = false := by rw [HE2.out, H.out, S.out]; simp [fewTask]; omega
        subst S2
        go_wp2_with fail
        go_ret
        exact ⟨rfl, hB.below⟩
      have q5 : decide ((50 : Int) < (tl.size : Int)) = false := decide_eq_false (by omega)
      have S3 : Hid (fewTask ⟨nm, du, tl, al⟩ = true) := Lib.hid (by simp [fewTask]; omega)
      go_wp2_with fail
      go_roundw
      case rel => exact ⟨k+1, by omega, by go_num, by first | trivial | rfl, Lib.hid (by rw [H.out, S.out, S3.out, Bool.true_and])⟩
      case measure => simp [intOf]; omega
    · have HE3 := Lib.hid (show R = s.stations.all fewStation by rw [HE2.out, H.out, List.drop_of_length_le (by omega)]; simp)
      obtain ⟨W, rfl⟩ : ∃ W : World, W = wr := ⟨_, rfl⟩
      go_wp2_with fail
      clear hlt HE2 H hk k0
      go_loopw [4, 5] (fun i4 _ wr => ∃ k : Nat, k ≤ s.stations.length ∧ i4 = .int .i64 k ∧ wr = W ∧ Hid (s.stations.all fewStation = (s.stations.drop k).all fewStation)) (fun i4 _ _ => s.stations.length - (intOf i4).toNat)
      case atStart => exact ⟨0, Nat.zero_le _, rfl, rfl, Lib.hid rfl⟩
      case round =>
        obtain ⟨k, hk, rfl, rfl, H⟩ := hrel
        by_cases hlt : k < s.stations.length
        · obtain ⟨b, oo, A1, a1, rfl, _, _, c0, c1, hK⟩ := station_at hs k hlt
          have n1 := Kd.K_ssize hK
          obtain ⟨_, a1', he, hm1, hmx, ht⟩ := Kd.K_tools hK
          obtain ⟨rfl, -, rfl⟩ := Value.slice.inj he
          clear he hK
          have S : Hid ((s.stations.drop k).all fewStation = (fewStation s.stations[k] && (s.stations.drop (k+1)).all fewStation)) := Lib.hid (by rw [List.drop_eq_getElem_cons hlt, List.all_cons])
          have hlt' : (k : Int) < (s.stations.length : Int) := by omega
          generalize s.stations[k] = t at *
          obtain ⟨nm, tl⟩ := t
          simp only at c0 c1 n1 hm1 hmx ht
          by_cases p3 : 5 < tl.length
          · have q3 : decide ((5 : Int) < (tl.length : Int)) = true := decide_eq_true (by omega)
            have S2 : R = false := by rw [HE3.out, H.out, S.out]; simp [fewStation]; omega
            subst S2
            go_wp2_with fail
            go_ret
            exact ⟨rfl, hB.below⟩
          have q3 : decide ((5 : Int) < (tl.length : Int)) = false := decide_eq_false (by omega)
          by_cases p4 : 50 < nm.size
          · have q4 : decide ((50 : Int) < (nm.size : Int)) = true := decide_eq_true (by omega)
            have S2 : R = false := by rw [HE3.out, H.out, S.out]; simp [fewStation]; omega
            subst S2
            go_wp2_with fail
            go_ret
            exact ⟨rfl, hB.below⟩
          have q4 : decide ((50 : Int) < (nm.size : Int)) = false := decide_eq_false (by omega)
          obtain ⟨W, rfl⟩ : ∃ W : World, W = wr := ⟨_, rfl⟩
          go_wp2_with fail
          go_loopw [5] (fun i5 wr => ∃ j : Nat, j ≤ tl.length ∧ i5 = .int .i64 j ∧ wr = W ∧ Hid (∀ x ∈ tl.take j, x.size ≤ 50)) (fun i5 _ => tl.length - (intOf i5).toNat)
          case atStart => exact ⟨0, Nat.zero_le _, rfl, rfl, Lib.hid (fun x hx => by simp at hx)⟩
          case round =>
            obtain ⟨j, hj, rfl, rfl, H2⟩ := hrel
            by_cases hlt2 : j < tl.length
            · obtain ⟨b2, o2, rfl, _, _, d0, hsz⟩ := str_at ht j hlt2
              have hlt2' : (j : Int) < (tl.length : Int) := by omega
              have S4 : Hid (tl[j] ∈ tl) := Lib.hid (List.getElem_mem _)
              have S5 : Hid (tl.take (j+1) = tl.take j ++ [tl[j]]) := Lib.hid (take_succ_at _ _ hlt2)
              generalize tl[j] = x at *
              by_cases p5 : 50 < x.size
              · have q5 : decide ((50 : Int) < (x.size : Int)) = true := decide_eq_true (by omega)
                have S2 : R = false := by
                  rw [HE3.out, H.out, S.out]
                  have : fewStation ⟨nm, tl⟩ = false := decide_eq_false (fun h => by have := h.2.2 x S4.out; omega)
                  rw [this, Bool.false_and]
                subst S2
                go_wp2_with fail
                go_ret
                exact ⟨rfl, hB.below⟩
              have q5 : decide ((50 : Int) < (x.size : Int)) = false := decide_eq_false (by omega)
              go_wp2_with fail
              go_roundw
              case rel =>
                refine ⟨j+1, by omega, by go_num, by first | trivial | rfl, Lib.hid (fun y hy => ?_)⟩
                rw [S5.out, List.mem_append] at hy
                rcases hy with hy | hy
                · exact H2.out y hy
                · rw [List.mem_singleton.1 hy]; omega
              case measure => simp [intOf]; omega
            · have S3 : Hid (fewStation ⟨nm, tl⟩ = true) := Lib.hid (decide_eq_true (p := tl.length ≤ 5 ∧ nm.size ≤ 50 ∧ ∀ t ∈ tl, t.size ≤ 50) ⟨by omega, by omega, fun x hx => H2.out x (by rw [List.take_of_length_le (by omega)]; exact hx)⟩)
              go_wp2_with fail
              go_roundw
              case rel => exact ⟨k+1, by omega, by go_num, by first | trivial | rfl, Lib.hid (by rw [H.out, S.out, S3.out, Bool.true_and])⟩
              case measure => simp [intOf]; omega
        · have S2 : R = true := by rw [HE3.out, H.out, List.drop_of_length_le (by omega)]; rfl
          subst S2
          go_wp2_with fail
          go_ret
          exact ⟨rfl, hB.below⟩
end Go.Proofs.Ythigebbihclbiaa
