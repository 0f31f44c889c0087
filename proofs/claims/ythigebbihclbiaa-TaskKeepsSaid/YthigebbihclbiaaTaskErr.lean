/- The errors of a task alone: task.task, dowellaw49.checkTask. -/
import Derived.Test.YthigebbihclbiaaTaskName
import Derived.Test.YthigebbihclbiaaFuncs
import Derived.Test.YthigebbihclbiaaTaskEq
namespace Go.Proofs.Ythigebbihclbiaa
open Go.RowKit

/-- The first error of the list After of task i among n (p: the element before). -/
def afterErr (n i : Int) : Option Int → List Int → Int
  | _, [] => 0
  | p, x :: xs => if x < 0 ∨ n ≤ x then 2 else if x = i then 17 else if p.any (fun q => decide (x ≤ q)) = true then 8 else afterErr n i (some x) xs
def prevOf (l : List Int) : Nat → Option Int
  | 0 => none
  | k + 1 => some (l.getD k 0)
theorem after_zero (n i : Int) (l : List Int) (k : Nat) (hk : k = 0) (h : k < l.length) : afterErr n i (prevOf l k) (l.drop k) =
    if l[k] < 0 ∨ n ≤ l[k] then 2 else if l[k] = i then 17 else afterErr n i (prevOf l (k+1)) (l.drop (k+1)) := by
  subst hk
  rw [List.drop_eq_getElem_cons h, afterErr]
  simp [prevOf, h]
theorem after_step (n i : Int) (l : List Int) (k : Nat) (h : k + 1 < l.length) : afterErr n i (prevOf l (k+1)) (l.drop (k+1)) =
    if l[k+1] < 0 ∨ n ≤ l[k+1] then 2 else if l[k+1] = i then 17 else if l[k+1] ≤ l[k] then 8 else afterErr n i (prevOf l (k+2)) (l.drop (k+2)) := by
  rw [List.drop_eq_getElem_cons h, afterErr]
  simp [prevOf, h, show k < l.length by omega]
theorem after_end (n i : Int) (p : Option Int) (l : List Int) (k : Nat) (h : l.length ≤ k) : afterErr n i p (l.drop k) = 0 := by
  rw [List.drop_of_length_le h, afterErr]

def isEmpty (s : ByteArray) : Bool := s.toList.isEmpty
def taskErr1 (ts : List Task) (i : Nat) (t : Task) : Int :=
  if nameOk t.name = false then 11 else if (ts.take i).any (fun x => seq x.name t.name) = true then 9 else if t.dur < 1 ∨ 1048576 < t.dur then 2
  else if isEmpty t.tool = false ∧ nameOk t.tool = false then 11 else afterErr ts.length i none t.after
/-- The first error of task i. -/
def taskErr (ts : List Task) (i : Nat) : Int := match ts[i]? with | some t => taskErr1 ts i t | none => 0

set_option maxHeartbeats 400000 in
theorem task1 (nm : ByteArray) (B : Nat) (w : World) (F : Nat → Prop) (xs : List Task) (hB : B < w.heap.size) (hc : w.cell? ⟨B, 0, none⟩ = some (.string nm)) :
    PredOn 69 #[.pointer (some ⟨B, 0, none⟩)] (fun W x v => ∃ cs, v = .agg cs ∧ Kd.task.K W F x cs.toList) (fun x => seq x.name nm) xs w := by
  rintro W x v hx hb ⟨cs, rfl, hK⟩
  obtain ⟨u, hcs, _⟩ := Kd.K_task.1 hK
  rw [arr_of_list hcs]
  have hc' : W.cell? ⟨B, 0, none⟩ = some (.string nm) := (hb.cell hB).trans hc
  have hB' : B < W.heap.size := by have := hb.size; omega
  clear hc hcs hK hx
  show Calls Try.prog 69 #[_, _] W _
  go_enter Try.func69, Try.ntmps69
  go_wp2
  go_ret
  exact ⟨ret_bool (by simp [seq]), below_one _ _⟩

theorem eg_task1 : ∀ args w, (callFunc 69 args).run Try.prog w = .ok (.enter 69 args) w := enters_of Try.func69 (by kernel_rfl) rfl

set_option maxHeartbeats 1000000 in
theorem task_calls (s : Shop) (F : Nat → Prop) (v : Value) (w : World) (i : Nat) (h : ShopAt w F s v) (hi : i < s.tasks.length) :
    Calls Try.prog 57 #[v, .int .i64 i] w fun e w' => e = .returned (.int .i64 (taskErr s.tasks i)) ∧ Below w.heap.size w w' := by
  obtain ⟨v1, v2, rfl, h1, h2⟩ := h
  obtain ⟨A, c, rfl, hc1, hc2, hr⟩ := h1
  obtain ⟨b, o, A1, a1, rfl, hF, hl, c0, c1, c2, c3, hK⟩ := task_at hr i hi
  have HE := Lib.hid (show taskErr s.tasks i = taskErr1 s.tasks i s.tasks[i] by rw [taskErr, List.getElem?_eq_getElem hi])
  generalize taskErr s.tasks i = R at *
  generalize s.tasks = ts at *
  obtain ⟨hz1, hz2⟩ := Kd.K_tsize hK
  have hi' : (i : Int) < (ts.length : Int) := by omega
  have hicap : i ≤ c := by omega
  have hrt := hr.take i
  generalize ts[i] = t at *
  have hn1 := fun W => name_calls t.name W hz1
  have hn2 := fun W => name_calls t.tool W hz2
  have hdup := fun (W : World) (hb : Below w.heap.size w W) (hB : w.heap.size + 1 < W.heap.size) (hc : W.cell? ⟨w.heap.size + 1, 0, none⟩ = some (.string t.name)) =>
    containsFunc_task (.slice (some ⟨b, o, none⟩) i c) F (ts.take i) 69 #[.pointer (some ⟨w.heap.size + 1, 0, none⟩)] (fun x => seq x.name t.name) W
      ⟨_, c, by rw [List.length_take, Nat.min_eq_left (by omega)], by rw [List.length_take]; omega, hc2, hrt.keep (Agree.below hb)⟩ eg_task1 (task1 t.name _ W F _ hB hc)
  cases p1 : nameOk t.name with
  | false =>
    have E := Lib.hid (show taskErr1 ts i t = 11 by rw [taskErr1, if_pos p1])
    rw [p1] at hn1
    clear p1 hn2 hdup
    go_enter Try.func57, Try.ntmps57
    go_wp2_with (refine (hn1 _).mono ?_; rintro e w1 ⟨rfl, hb1⟩)
    go_ret
    exact ⟨ret_int (by rw [HE.out, E.out]), below_then (below_two _ _ _) (by simp; omega) hb1⟩
  | true =>
    rw [p1] at hn1
    go_enter Try.func57, Try.ntmps57
    have P1 := Lib.hid p1
    clear p1
    go_wp2_with fail
    refine (hn1 _).mono ?_
    rintro e w1 ⟨rfl, hb1⟩
    obtain ⟨hc, hf⟩ := bcell hb1
    have hbW := below_then (below_two _ _ _) (by simp; omega) hb1
    have hz3 : w.heap.size + 1 < w1.heap.size := by have := hb1.size; simp at this; omega
    cases p2 : (ts.take i).any (fun x => seq x.name t.name) with
    | true =>
      have E := Lib.hid (show taskErr1 ts i t = 9 by rw [taskErr1, if_neg (by rw [P1.out]; simp), if_pos p2])
      rw [p2] at hdup
      clear p2 hn2
      go_wp2_with (refine (hdup _ hbW hz3 (by rw [hc _ _ (by simp)]; go_simp)).mono ?_; rintro e w2 ⟨rfl, hb2⟩)
      go_ret
      exact ⟨ret_int (by rw [HE.out, E.out]), below_then hbW hbW.size hb2⟩
    | false =>
      rw [p2] at hdup
      have P2 := Lib.hid p2
      clear p2
      go_wp2_with fail
      refine (hdup _ hbW hz3 (by rw [hc _ _ (by simp)]; go_simp)).mono ?_
      rintro e w2 ⟨rfl, hb2⟩
      have k0 : w2.cell? ⟨w.heap.size, 0, none⟩ = some (.slice (some ⟨b, o, none⟩) ts.length c) := by rw [hb2.cell (by simp; omega), hc _ _ (by simp; omega)]; go_simp
      have k1 : w2.cell? ⟨w.heap.size + 1, 1, none⟩ = some (.int .i64 t.dur) := by rw [hb2.cell (by simp; omega), hc _ _ (by simp)]; go_simp
      have k2 : w2.cell? ⟨w.heap.size + 1, 2, none⟩ = some (.string t.tool) := by rw [hb2.cell (by simp; omega), hc _ _ (by simp)]; go_simp
      have k3 : w2.cell? ⟨w.heap.size + 1, 3, none⟩ = some (.slice A1 t.after.length a1) := by rw [hb2.cell (by simp; omega), hc _ _ (by simp)]; go_simp
      have hbW2 := below_then hbW hbW.size hb2
      have hz4 : w.heap.size + 1 < w2.heap.size := by have := hb2.size; omega
      have hA := (Kd.K_after hK).keep (Agree.below hbW2)
      clear hc hf hb1 hbW hz3 hb2 hdup c0 c1 c2 c3 hrt hr hn1
      have E := Lib.hid (show taskErr1 ts i t = if t.dur < 1 ∨ 1048576 < t.dur then 2 else if isEmpty t.tool = false ∧ nameOk t.tool = false then 11 else afterErr ts.length i none t.after by
        rw [taskErr1, if_neg (by rw [P1.out]; simp), if_neg (by rw [P2.out]; simp)])
      clear P1 P2
      by_cases hdur : t.dur < 1 ∨ 1048576 < t.dur
      · have E2 := Lib.hid (E.out.trans (if_pos hdur))
        clear hn2
        go_wp2_with fail
        all_goals first
        | (go_ret; exact ⟨ret_int (by rw [HE.out, E2.out]), hbW2⟩)
        | (exfalso; omega)
      · have E2 := Lib.hid (E.out.trans (if_neg hdur))
        have q1 : 1 ≤ t.dur := by omega
        have q2 : t.dur ≤ 1048576 := by omega
        clear hdur E
        cases te : isEmpty t.tool with
        | false =>
          have q3 : (t.tool.toList.isEmpty) = false := te
          have q4 : (!t.tool.toList.isEmpty) = true := by rw [q3]; rfl
          have q5 : ¬ t.tool.toList = [] := by intro e; rw [e] at q3; cases q3
          have TE := Lib.hid te
          clear te
          cases p3 : nameOk t.tool with
          | false =>
            have E3 := Lib.hid (E2.out.trans (if_pos ⟨TE.out, p3⟩))
            rw [p3] at hn2
            clear p3
            go_wp2_with (refine (hn2 _).mono ?_; rintro e w3 ⟨rfl, hb3⟩)
            go_ret
            exact ⟨ret_int (by rw [HE.out, E3.out]), below_then hbW2 hbW2.size hb3⟩
          | true =>
            have E3 := Lib.hid (E2.out.trans (if_neg (by rw [p3]; simp)))
            rw [p3] at hn2
            clear p3
            go_wp2_with fail
            refine (hn2 _).mono ?_
            rintro e w3 ⟨rfl, hb3⟩
            replace k0 := (hb3.cell (by simp; omega)).trans k0
            replace k3 := (hb3.cell (by simp; omega)).trans k3
            replace hA := hA.keep (Agree.below hb3)
            replace hbW2 := below_then hbW2 hbW2.size hb3
            clear hb3 hn2 k1 k2 q3 q4 q5 hz4
            go_wp2_with fail
            obtain ⟨A2, a2, he, ha1, ha2, hra⟩ := hA
            obtain ⟨rfl, _, rfl⟩ := Value.slice.inj he
            clear he
            generalize t.after = l at *
            go_loop [6, 7, 47] (fun _ _ i47 => ∃ k : Nat, k ≤ l.length ∧ i47 = .int .i64 k ∧ Hid (R = afterErr ts.length i (prevOf l k) (l.drop k))) (fun _ _ i47 => l.length - (intOf i47).toNat)
            case atStart => exact ⟨0, Nat.zero_le _, rfl, Lib.hid (by rw [HE.out, E3.out]; rfl)⟩
            case round =>
              obtain ⟨k, hk, rfl, H⟩ := hrel
              by_cases hlt : k < l.length
              · obtain ⟨b5, o5, rfl, _, _, d0⟩ := int_at hra k hlt
                have hlt' : (k : Int) < (l.length : Int) := by omega
                rcases Nat.eq_zero_or_pos k with h0 | hp
                · have S := Lib.hid (after_zero ts.length i l k h0 hlt)
                  have g0 : ¬ 0 < k := by omega
                  generalize l[k] = x at *
                  clear h0 hra
                  rcases Decidable.em (x = (i : Int)) with hxi | hxi
                  all_goals
                    first | have e1 : (x == (i : Int)) = true := beq_iff_eq.2 hxi | have e1 : (x == (i : Int)) = false := beq_eq_false_iff_ne.2 hxi
                    have HX := Lib.hid hxi
                    clear hxi
                    go_wp2_with fail
                  all_goals first
                  | (go_round
                     case rel => exact ⟨k+1, by omega, by go_num, Lib.hid (by rw [H.out, S.out, if_neg (by omega), if_neg HX.out])⟩
                     case measure => simp [intOf]; omega)
                  | (go_ret; refine ⟨ret_int ?_, hbW2⟩; rw [H.out, S.out]; first | rw [if_pos (by omega)] | rw [if_neg (by omega), if_pos HX.out])
                · obtain ⟨j, rfl⟩ : ∃ j, k = j + 1 := ⟨k - 1, by omega⟩
                  have S := Lib.hid (after_step ts.length i l j hlt)
                  obtain ⟨b6, o6, he6, _, _, d1⟩ := int_at hra j (by omega)
                  obtain ⟨rfl, rfl⟩ : b5 = b6 ∧ o5 = o6 := by simpa using he6
                  have g0 : decide (0 < j + 1) = true := decide_eq_true (by omega)
                  generalize l[j+1] = x at *
                  generalize l[j] = y at *
                  clear hp hra he6
                  rcases Decidable.em (x = (i : Int)) with hxi | hxi
                  all_goals
                    first | have e1 : (x == (i : Int)) = true := beq_iff_eq.2 hxi | have e1 : (x == (i : Int)) = false := beq_eq_false_iff_ne.2 hxi
                    have HX := Lib.hid hxi
                    clear hxi
                    go_wp2_with fail
                  all_goals first
                  | (go_round
                     case rel => exact ⟨j+1+1, by omega, by go_num, Lib.hid (by rw [H.out, S.out, if_neg (by omega), if_neg HX.out, if_neg (by omega)])⟩
                     case measure => simp [intOf]; omega)
                  | (go_ret; refine ⟨ret_int ?_, hbW2⟩; rw [H.out, S.out]; first | rw [if_pos (by omega)] | rw [if_neg (by omega), if_pos HX.out] | rw [if_neg (by omega), if_neg HX.out, if_pos (by omega)])
              · go_wp2_with fail
                go_ret
                exact ⟨ret_int (by rw [H.out, after_end _ _ _ _ _ (by omega)]), hbW2⟩
        | true =>
          have q3 : (t.tool.toList.isEmpty) = true := te
          have q4 : (!t.tool.toList.isEmpty) = false := by rw [q3]; rfl
          have q5 : t.tool.toList = [] := List.isEmpty_iff.1 q3
          have E3 := Lib.hid (E2.out.trans (if_neg (by rw [te]; simp)))
          clear te hn2 q5
          go_wp2_with fail
          obtain ⟨A2, a2, he, ha1, ha2, hra⟩ := hA
          obtain ⟨rfl, _, rfl⟩ := Value.slice.inj he
          clear he
          generalize t.after = l at *
          go_loop [6, 7, 47] (fun _ _ i47 => ∃ k : Nat, k ≤ l.length ∧ i47 = .int .i64 k ∧ Hid (R = afterErr ts.length i (prevOf l k) (l.drop k))) (fun _ _ i47 => l.length - (intOf i47).toNat)
          case atStart => exact ⟨0, Nat.zero_le _, rfl, Lib.hid (by rw [HE.out, E3.out]; rfl)⟩
          case round =>
            obtain ⟨k, hk, rfl, H⟩ := hrel
            by_cases hlt : k < l.length
            · obtain ⟨b5, o5, rfl, _, _, d0⟩ := int_at hra k hlt
              have hlt' : (k : Int) < (l.length : Int) := by omega
              rcases Nat.eq_zero_or_pos k with h0 | hp
              · have S := Lib.hid (after_zero ts.length i l k h0 hlt)
                have g0 : ¬ 0 < k := by omega
                generalize l[k] = x at *
                clear h0 hra
                rcases Decidable.em (x = (i : Int)) with hxi | hxi
                all_goals
                  first | have e1 : (x == (i : Int)) = true := beq_iff_eq.2 hxi | have e1 : (x == (i : Int)) = false := beq_eq_false_iff_ne.2 hxi
                  have HX := Lib.hid hxi
                  clear hxi
                  go_wp2_with fail
                all_goals first
                | (go_round
                   case rel => exact ⟨k+1, by omega, by go_num, Lib.hid (by rw [H.out, S.out, if_neg (by omega), if_neg HX.out])⟩
                   case measure => simp [intOf]; omega)
                | (go_ret; refine ⟨ret_int ?_, hbW2⟩; rw [H.out, S.out]; first | rw [if_pos (by omega)] | rw [if_neg (by omega), if_pos HX.out])
              · obtain ⟨j, rfl⟩ : ∃ j, k = j + 1 := ⟨k - 1, by omega⟩
                have S := Lib.hid (after_step ts.length i l j hlt)
                obtain ⟨b6, o6, he6, _, _, d1⟩ := int_at hra j (by omega)
                obtain ⟨rfl, rfl⟩ : b5 = b6 ∧ o5 = o6 := by simpa using he6
                have g0 : decide (0 < j + 1) = true := decide_eq_true (by omega)
                generalize l[j+1] = x at *
                generalize l[j] = y at *
                clear hp hra he6
                rcases Decidable.em (x = (i : Int)) with hxi | hxi
                all_goals
                  first | have e1 : (x == (i : Int)) = true := beq_iff_eq.2 hxi | have e1 : (x == (i : Int)) = false := beq_eq_false_iff_ne.2 hxi
                  have HX := Lib.hid hxi
                  clear hxi
                  go_wp2_with fail
                all_goals first
                | (go_round
                   case rel => exact ⟨j+1+1, by omega, by go_num, Lib.hid (by rw [H.out, S.out, if_neg (by omega), if_neg HX.out, if_neg (by omega)])⟩
                   case measure => simp [intOf]; omega)
                | (go_ret; refine ⟨ret_int ?_, hbW2⟩; rw [H.out, S.out]; first | rw [if_pos (by omega)] | rw [if_neg (by omega), if_pos HX.out] | rw [if_neg (by omega), if_neg HX.out, if_pos (by omega)])
            · go_wp2_with fail
              go_ret
              exact ⟨ret_int (by rw [H.out, after_end _ _ _ _ _ (by omega)]), hbW2⟩
end Go.Proofs.Ythigebbihclbiaa
