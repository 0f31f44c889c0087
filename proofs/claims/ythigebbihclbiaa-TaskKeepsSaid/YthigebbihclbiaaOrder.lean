/- task.order: the least order of the tasks. -/
import Derived.Test.YthigebbihclbiaaFuncs
import Derived.Test.YthigebbihclbiaaShelf
import Derived.Test.YthigebbihclbiaaOwn
import Derived.Test.YthigebbihclbiaaTaskEq
namespace Go.Proofs.Ythigebbihclbiaa
open Go.RowKit

def isDone (done : List Bool) (x : Int) : Bool := done.getD x.toNat false
/-- A task that is not done, and all of whose After are. -/
def ready (ts : List Task) (done : List Bool) (k : Nat) : Bool :=
  match ts[k]? with
  | some t => !(done.getD k false) && !t.after.any (fun x => !isDone done x)
  | none => false
def nextReady (ts : List Task) (done : List Bool) : Nat := ((List.range ts.length).find? (ready ts done)).getD ts.length
def orderGo (ts : List Task) : Nat → List Bool → List Int → List Int
  | 0, _, out => out
  | f + 1, done, out => if nextReady ts done = ts.length then out else orderGo ts f (done.set (nextReady ts done) true) (out ++ [(nextReady ts done : Int)])
/-- The least order; fewer tasks if there is a cycle. -/
def orderOf (ts : List Task) : List Int := orderGo ts ts.length (List.replicate ts.length false) []

theorem next_hit (ts : List Task) (done : List Bool) (k : Nat) (hk : k < ts.length) (hr : ready ts done k = true) (hn : ∀ j, j < k → ready ts done j = false) : nextReady ts done = k := by
  unfold nextReady
  have h : (List.range ts.length).find? (ready ts done) = some k := by
    rw [List.find?_range_eq_some]
    exact ⟨hr, by simpa using hk, fun j hj => by simp [hn j hj]⟩
  rw [h]; rfl
theorem next_miss (ts : List Task) (done : List Bool) (hn : ∀ j, j < ts.length → ready ts done j = false) : nextReady ts done = ts.length := by
  unfold nextReady
  have h : (List.range ts.length).find? (ready ts done) = none := by
    rw [List.find?_range_eq_none]
    intro j hj
    simp [hn j hj]
  rw [h]; rfl
theorem next_le (ts : List Task) (done : List Bool) : nextReady ts done ≤ ts.length := by
  unfold nextReady
  cases h : (List.range ts.length).find? (ready ts done) with
  | none => simp
  | some k =>
    rw [List.find?_range_eq_some] at h
    have := h.2.1
    simp at this
    simp only [Option.getD_some]; omega
theorem next_ready (ts : List Task) (done : List Bool) (h : nextReady ts done ≠ ts.length) : ready ts done (nextReady ts done) = true := by
  unfold nextReady at *
  cases h' : (List.range ts.length).find? (ready ts done) with
  | none => rw [h'] at h; exact absurd rfl h
  | some k =>
    rw [List.find?_range_eq_some] at h'
    exact h'.1
def left (done : List Bool) : Nat := done.countP (fun d => !d)
theorem left_set (done : List Bool) (k : Nat) (hk : k < done.length) (h : done.getD k false = false) : left (done.set k true) + 1 = left done := by
  unfold left
  have hd : done[k] = false := by simpa [hk] using h
  have := List.countP_set (p := fun d => !d) (a := true) (l := done) (i := k) hk
  rw [this, hd]
  have hp : 0 < done.countP (fun d => !d) := List.countP_pos_iff.2 ⟨done[k], List.getElem_mem _, by rw [hd]; rfl⟩
  simp
  omega
theorem order_end (ts : List Task) (f : Nat) (done : List Bool) (out : List Int) (h : nextReady ts done = ts.length) : orderGo ts f done out = out := by
  cases f with
  | zero => rfl
  | succ f => rw [orderGo, if_pos h]

theorem int_info : (Try.prog.info? 3).map (fun i => (i.zero, i.size, i.bytes)) = some (some (.int .i64 0), 1, 8) := by kernel_rfl
theorem bool_info : (Try.prog.info? 4).map (fun i => (i.zero, i.size, i.bytes)) = some (some (.bool false), 1, 1) := by kernel_rfl

set_option maxHeartbeats 400000 in
theorem order1 (done : List Bool) (B g n c : Nat) (w : World) (xs : List Int) (hB : B < w.heap.size) (hbox : w.cell? ⟨B, 0, none⟩ = some (.slice (some ⟨g, 0, none⟩) n c)) (hn : done.length = n)
    (hc : ∀ j (h : j < done.length), w.cell? ⟨g, j, none⟩ = some (.bool done[j])) (hxs : ∀ x ∈ xs, 0 ≤ x ∧ x < n) :
    PredOn 66 #[.pointer (some ⟨B, 0, none⟩)] (fun W x v => v = .int .i64 x) (fun x => !isDone done x) xs w := by
  rintro W x v hx hb rfl
  obtain ⟨h0, h1⟩ := hxs x hx
  have hj : x.toNat < done.length := by omega
  have c1 := hc x.toNat hj
  have hE : isDone done x = done[x.toNat] := by simp [isDone, hj]
  have hbox' : W.cell? ⟨B, 0, none⟩ = some (.slice (some ⟨g, 0, none⟩) n c) := (hb.cell hB).trans hbox
  have c1' : W.cell? ⟨g, x.toNat, none⟩ = some (.bool done[x.toNat]) := (hb.cell (World.block_lt_of_cell? w _ c1)).trans c1
  show Calls Try.prog 66 #[_, _] W fun e w' => e = .returned (.bool (!isDone done x)) ∧ _
  rw [hE]
  generalize done[x.toNat] = d at *
  clear hc hbox c1 hE hj hn hxs hx
  go_enter Try.func66, Try.ntmps66
  go_wp2
  go_ret
  exact ⟨rfl, Below.refl _ _⟩

theorem eg_order1 : ∀ args w, (callFunc 66 args).run Try.prog w = .ok (.enter 66 args) w := enters_of Try.func66 (by kernel_rfl) rfl

/-- A list of ints in memory of the call's own. -/
def RetInts (R : List Int) (w : World) (e : Ending) (w' : World) : Prop := ∃ v, e = .returned v ∧ Kd.int.Own 3 w' w.heap.size Kd.NoB v R ∧ Below w.heap.size w w'

/-- The After of all tasks are tasks. -/
def AfterOk (ts : List Task) : Prop := ∀ t ∈ ts, ∀ x ∈ t.after, 0 ≤ x ∧ x < ts.length

/-- What holds in order's loop: the boxes of s and of done, the row done, the row out. -/
structure OrderInv (w wr : World) (A : Option Addr) (n c : Nat) (ov : Value) (done : List Bool) (out : List Int) : Prop where
  c0 : wr.cell? ⟨w.heap.size, 0, none⟩ = some (.slice A n c)
  c1 : wr.cell? ⟨w.heap.size + 1 + 1, 0, none⟩ = some (.slice (some ⟨w.heap.size + 1, 0, none⟩) n n)
  row : Kd.bool.Own 4 wr w.heap.size Kd.NoB (.slice (some ⟨w.heap.size + 1, 0, none⟩) n n) done
  out : Kd.int.Own 3 wr w.heap.size Kd.NoB ov out
  ne : ∀ b, ov.ownBlock = some b → w.heap.size + 2 < b
  below : Below w.heap.size w wr
  size : w.heap.size + 2 < wr.heap.size
theorem OrderInv.later {w wr wx : World} {A : Option Addr} {n c : Nat} {ov : Value} {done : List Bool} {out : List Int} (h : OrderInv w wr A n c ov done out) (hb : Below wr.heap.size wr wx) : OrderInv w wx A n c ov done out :=
  ⟨(hb.cell (show w.heap.size < _ by have := h.size; omega)).trans h.c0, (hb.cell (show w.heap.size + 1 + 1 < _ by have := h.size; omega)).trans h.c1, h.row.below hb, h.out.below hb, h.ne, below_then h.below h.below.size hb, by have := h.size; have := hb.size; omega⟩
theorem OrderInv.stored {w wr : World} {A : Option Addr} {n c : Nat} {ov : Value} {done : List Bool} {out : List Int} (h : OrderInv w wr A n c ov done out) (k : Nat) :
    OrderInv w (wr.setCell ⟨w.heap.size + 1, k, none⟩ (.bool true)) A n c ov (done.set k true) out := by
  obtain ⟨h1, h2⟩ := h.row.set k true trivial
  refine ⟨h2.cell h.c0 (by simp), h2.cell h.c1 (by simp), h1, h.out.grown h2 (.inr fun e => ?_) (fun _ hb => hb.elim), h.ne, h.below.setCell (by simp) _, by simpa [World.setCell] using h.size⟩
  have := h.ne _ e
  omega
theorem OrderInv.appended {w wr w1 : World} {A : Option Addr} {n c : Nat} {ov v1 : Value} {done : List Bool} {out out' : List Int} (h : OrderInv w wr A n c ov done out)
    (ho : Kd.int.Own 3 w1 w.heap.size Kd.NoB v1 out') (hg : wr.grownBy w1 ov.ownBlock) (hat : v1.ownBlock = ov.ownBlock ∨ ∃ b, v1.ownBlock = some b ∧ wr.heap.size ≤ b) : OrderInv w w1 A n c v1 done out' := by
  have hz := h.size
  have far : ∀ b, b ≤ w.heap.size + 2 → some b ≠ ov.ownBlock := fun b hb e => by have := h.ne b e.symm; omega
  refine ⟨hg.cell h.c0 (far w.heap.size (by omega)), hg.cell h.c1 (far (w.heap.size + 1 + 1) (by omega)), h.row.grown hg (.inr (far (w.heap.size + 1) (by omega))) (fun _ hb => hb.elim), ho, fun b hb => ?_, h.below.grown hg h.below.size (fun k hk => by have := h.ne k hk; omega), by have := hg.size; omega⟩
  rcases hat with e | ⟨b', e, hb'⟩
  · exact h.ne b (e ▸ hb)
  · rw [e] at hb
    cases hb
    omega

set_option maxHeartbeats 1000000 in
theorem order_calls (s : Shop) (F : Nat → Prop) (v : Value) (w : World) (h : ShopAt w F s v) (hok : AfterOk s.tasks) (hlen : s.tasks.length ≤ 1000) :
    Calls Try.prog 56 #[v] w (RetInts (orderOf s.tasks) w) := by
  obtain ⟨v1, v2, rfl, h1, h2⟩ := h
  clear h2
  obtain ⟨A, c, rfl, hc1, hc2, hr⟩ := h1
  have HE := Lib.hid (show orderOf s.tasks = orderGo s.tasks s.tasks.length (List.replicate s.tasks.length false) [] from rfl)
  generalize orderOf s.tasks = R at *
  generalize s.tasks = ts at *
  have hmk := Kd.run_made (Pg := Try.prog) 80 4 (.bool false) 1 Try.underlying80 bool_info rfl (by omega) ts.length (by omega)
  have HOK := Lib.hid hok
  clear hok
  go_enter Try.func56, Try.ntmps56
  go_wp2_with fail
  clear hmk
  go_loopg [4, 5] ts.length (fun gg s4 _ wr => ∃ done out, OrderInv w wr A ts.length c s4 done out ∧ Aside (done.length = ts.length) ∧ Aside (out.length + left done ≤ ts.length) ∧ Aside (left done ≤ gg) ∧ Aside (R = orderGo ts gg done out))
  case atStart =>
    refine ⟨List.replicate ts.length false, [], ⟨by go_simp, by go_simp, ?_, Kd.Own.nil _ _ _ _ _, fun b hb => by simp [Value.ownBlock] at hb, ?_, by simp⟩, List.length_replicate, ?_, ?_, HE.out⟩
    · have h1 := Kd.Own.made (enc := Value.bool) (P := fun _ => True) (h1 := fun _ => rfl) (w.alloc (.cells #[.slice A ts.length c, v2] 25)) w.heap.size 4 false ts.length trivial (by simp) (by omega)
      rw [show (w.alloc (.cells #[.slice A ts.length c, v2] 25)).heap.size = w.heap.size + 1 by simp] at h1
      exact Kd.Own.below h1 (below_one _ _)
    · exact below_then (below_one _ _) (by simp) (below_two _ _ _)
    · show 0 + left _ ≤ _; simp [left, List.countP_replicate]
    · show left _ ≤ _; simp [left, List.countP_replicate]
  case round =>
    obtain ⟨done, out, I, hdl, hsum, hgk, H⟩ := hrel
    obtain ⟨W, rfl⟩ : ∃ W : World, W = wr := ⟨_, rfl⟩
    obtain ⟨oA, oc, rfl, _⟩ := I.out.slice
    go_wp2_with fail
    go_loopw [5] (fun i wx => ∃ k : Nat, k ≤ ts.length ∧ i = .int .i64 k ∧ Below W.heap.size W wx ∧ Aside (∀ j, j < k → ready ts done j = false)) (fun i _ => ts.length - (intOf i).toNat)
    case atStart => exact ⟨0, Nat.zero_le _, rfl, Below.refl _ _, fun j hj => absurd hj (Nat.not_lt_zero _)⟩
    case round =>
      obtain ⟨k, hk, rfl, hb, N⟩ := hrel
      obtain ⟨wx, rfl⟩ : ∃ wx : World, wx = wr := ⟨_, rfl⟩
      have I' := I.later hb
      have d0 := I'.c0
      have d1 := I'.c1
      have hwx := I'.size
      have hbx := I'.below
      by_cases hlt : k < ts.length
      · obtain ⟨b, o, A1, a1, rfl, _, hl1, _, _, _, e3, hK⟩ := task_at (hr.keep (Agree.below hbx)) k hlt
        obtain ⟨e1, _, _⟩ := I'.row.cell k (by rw [hdl.out]; exact hlt)
        have hlt' : (k : Int) < (ts.length : Int) := by omega
        have hRd : Aside (ready ts done k = (!(done[k]'(by rw [hdl.out]; exact hlt)) && !ts[k].after.any (fun x => !isDone done x))) := by
          show ready ts done k = _
          simp [ready, hlt, hdl.out]
        have hxs := HOK.out ts[k] (List.getElem_mem _)
        have hrow : ∀ j (h : j < done.length), wx.cell? ⟨w.heap.size + 1, j, none⟩ = some (.bool done[j]) := fun j h => (I'.row.cell j h).1
        have hcall := containsFunc_int (.slice A1 ts[k].after.length a1) F ts[k].after 66 #[.pointer (some ⟨w.heap.size + 1 + 1, 0, none⟩)] (fun x => !isDone done x) wx (Kd.K_after hK) eg_order1
          (order1 done (w.heap.size + 1 + 1) (w.heap.size + 1) ts.length ts.length wx ts[k].after (by omega) d1 hdl.out hrow hxs)
        have hnone : ready ts done k = false → ∀ j, j < k + 1 → ready ts done j = false := fun e j hj => by
          by_cases ej : j = k
          · rw [ej]; exact e
          · exact N.out j (by omega)
        have HN := Lib.hid hnone
        clear hnone hrow hxs hK
        cases p1 : (done[k]'(by rw [hdl.out]; exact hlt)) with
        | true =>
          rw [p1] at e1
          have HR : Hid (ready ts done k = false) := Lib.hid (by rw [hRd.out, p1]; rfl)
          clear hcall p1 hRd
          go_wp2_with fail
          go_roundw
          case rel => exact ⟨k+1, by omega, by go_num, hb, HN.out HR.out⟩
          case measure => simp [intOf]; omega
        | false =>
          rw [p1] at e1
          cases p2 : ts[k].after.any (fun x => !isDone done x) with
          | true =>
            rw [p2] at hcall
            have HR : Hid (ready ts done k = false) := Lib.hid (by rw [hRd.out, p2]; simp)
            clear p1 p2 hRd
            go_wp2_with (refine hcall.mono ?_; rintro e w2 ⟨rfl, hb2⟩)
            go_roundw
            case rel => exact ⟨k+1, by omega, by go_num, below_then hb hb.size hb2, HN.out HR.out⟩
            case measure => simp [intOf]; omega
          | false =>
            rw [p2] at hcall
            have HR : Hid (ready ts done k = true) := Lib.hid (by rw [hRd.out, p1, p2]; rfl)
            have hnk := Lib.hid (next_hit ts done k hlt HR.out N.out)
            have hdk : Hid (done.getD k false = false) := Lib.hid (by simp [hdl.out, hlt, p1])
            clear p1 p2 hRd HN
            go_wp2_with fail
            refine hcall.mono ?_
            rintro e w2 ⟨rfl, hb2⟩
            have I2 := I'.later hb2
            clear hcall d0 d1 e1 e3
            have d1 := I2.c1
            have hwx2 := I2.size
            obtain ⟨e1, e2, _⟩ := I2.row.cell k (by rw [hdl.out]; exact hlt)
            have hne : ((k : Int) == (ts.length : Int)) = false := beq_eq_false_iff_ne.2 (by omega)
            have I3 := I2.stored k
            have hls := Lib.hid (left_set done k (by rw [hdl.out]; exact hlt) hdk.out)
            have hob : (out.length + 1) * 8 ≤ 140737488355328 := by have := hsum.out; omega
            go_wp2_with (at_builtin; refine Kd.app_at Kd.int w.heap.size Kd.NoB rfl (.tmp 40) (.tmp 42) 31 3 (.int .i64 0) 8 rfl Try.underlying31 int_info rfl (by decide) (by omega) (.slice oA out.length oc) out (k : Int) #[.int .i64 k] rfl _ (by simp) rfl ⟨rfl, trivial⟩ I3.out I3.below.size (fun b hb => hb.elim) hob ?_; intro v1 w3 ho hg hat)
            have I4 := I3.appended ho hg hat
            go_roundg (gk - 1)
            case measure => have := hls.out; have := hgk.out; omega
            case rel =>
              have q1 : (done.set k true).length = ts.length := by rw [List.length_set, hdl.out]
              have q2 : (out ++ [(k : Int)]).length + left (done.set k true) ≤ ts.length := by have := hls.out; have := hsum.out; rw [List.length_append]; simp; omega
              have q3 : left (done.set k true) ≤ gk - 1 := by have := hls.out; have := hgk.out; omega
              have q4 : R = orderGo ts (gk - 1) (done.set k true) (out ++ [(k : Int)]) := by
                obtain ⟨g', rfl⟩ : ∃ g', gk = g' + 1 := ⟨gk - 1, by have := hls.out; have := hgk.out; omega⟩
                rw [H.out, orderGo, hnk.out, if_neg (by omega)]
                rfl
              exact ⟨done.set k true, out ++ [(k : Int)], I4, q1, q2, q3, q4⟩
      · have hnm := Lib.hid (next_miss ts done (fun j hj => N.out j (by omega)))
        have hkk : k = ts.length := by omega
        have heq : ((k : Int) == (ts.length : Int)) = true := beq_iff_eq.2 (by omega)
        have HR : Hid (R = out) := Lib.hid (by rw [H.out, order_end _ _ _ _ hnm.out])
        clear hkk
        go_wp2_with fail
        go_ret
        exact ⟨_, rfl, by rw [HR.out]; exact I'.out, I'.below⟩
end Go.Proofs.Ythigebbihclbiaa
