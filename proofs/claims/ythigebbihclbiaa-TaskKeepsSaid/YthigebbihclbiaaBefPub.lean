/- task.Before, for a valid shop. -/
import Derived.Test.YthigebbihclbiaaRedInv
import Derived.Deep.DeepMust
namespace Go.Proofs.Ythigebbihclbiaa
open Go.RowKit
set_option maxRecDepth 100000

/-- The numbers at which f holds. -/
def truesUpto (f : Nat → Bool) : Nat → List Int
  | 0 => []
  | k + 1 => truesUpto f k ++ (if f k = true then [(k : Int)] else [])
theorem truesUpto_len (f : Nat → Bool) : ∀ k, (truesUpto f k).length ≤ k
  | 0 => Nat.le_refl _
  | k + 1 => by
    have := truesUpto_len f k
    rw [truesUpto, List.length_append]
    split <;> simp <;> omega
theorem truesUpto_mem (f : Nat → Bool) (x : Int) : ∀ k, x ∈ truesUpto f k ↔ ∃ j : Nat, j < k ∧ x = j ∧ f j = true
  | 0 => by simp [truesUpto]
  | k + 1 => by
    rw [truesUpto, List.mem_append, truesUpto_mem f x k]
    constructor
    · rintro (⟨j, h1, h2, h3⟩ | h)
      · exact ⟨j, by omega, h2, h3⟩
      · split at h
        · rename_i hk
          exact ⟨k, by omega, by simpa using h, hk⟩
        · cases h
    · rintro ⟨j, h1, rfl, h3⟩
      by_cases h : j = k
      · subst h
        right
        rw [if_pos h3]
        exact List.mem_cons_self ..
      · exact .inl ⟨j, by omega, rfl, h3⟩
theorem truesUpto_congr {f g : Nat → Bool} : ∀ k, (∀ j, j < k → f j = g j) → truesUpto f k = truesUpto g k
  | 0, _ => rfl
  | k + 1, h => by rw [truesUpto, truesUpto, truesUpto_congr k (fun j hj => h j (by omega)), h k (by omega)]
/-- What task.Before returns for a valid shop. -/
def befLists (ts : List Task) : List (List Int) := (List.range ts.length).map (fun i => truesUpto (befAt ts i) ts.length)

/-- Block g holds n rows of n bools that read as f. -/
def RowsAt (W : World) (g n : Nat) (f : Nat → Nat → Bool) : Prop :=
  g < W.heap.size ∧ ∀ j, j < n → ∃ r c, r < W.heap.size ∧ W.cell? ⟨g, j, none⟩ = some (.slice (some ⟨r, 0, none⟩) n c) ∧ ∀ k, k < n → W.cell? ⟨r, k, none⟩ = some (.bool (f j k))
theorem RowsAt.below {W W' : World} {g n : Nat} {f : Nat → Nat → Bool} (h : RowsAt W g n f) (hb : Below W.heap.size W W') : RowsAt W' g n f := by
  obtain ⟨hg, hr⟩ := h
  have hz := hb.size
  refine ⟨by omega, fun j hj => ?_⟩
  obtain ⟨r, c, h1, c1, c2⟩ := hr j hj
  exact ⟨r, c, by omega, (hb.cell (show g < W.heap.size from hg)).trans c1, fun k hk => (hb.cell (show r < W.heap.size from h1)).trans (c2 k hk)⟩
theorem RowsAt.of {W : World} {base g n : Nat} {hs : List Hdr} {ts : List Task} (hm : Mat W base g n hs (beforeOf ts)) (hn : n = ts.length) (ho : (orderOf ts).length = ts.length) : RowsAt W g n (befAt ts) := by
  subst hn
  have hg : g < W.heap.size := (hm.outer.lt g rfl).2
  refine ⟨hg, fun j hj => ?_⟩
  have hjs : j < hs.length := by rw [hm.hl]; exact hj
  have hjm : j < (beforeOf ts).length := by rw [hm.ml]; exact hj
  obtain ⟨c1, _, _⟩ := hm.outer.cell j hjs
  have hi := hm.inner j _ _ (List.getElem?_eq_getElem hjs) (List.getElem?_eq_getElem hjm)
  have hl : (beforeOf ts)[j].length = ts.length := by
    have := beforeOf_row ts ho j hj
    simpa [rowOf, hjm] using this
  obtain ⟨r, c, he, hr1, hr2⟩ := hi.form (by omega)
  rw [he, hl] at c1
  rw [he] at hi
  refine ⟨r, c, by omega, c1, fun k hk => ?_⟩
  have hk' : k < (beforeOf ts)[j].length := by omega
  rw [(hi.cell k hk').1]
  simp [befAt, rowOf, hjm, hk']

/-- A list of lists of ints and an error code. -/
def RetLL (R : List (List Int)) (c : Int) (w : World) (e : Ending) (w' : World) : Prop := ∃ v, e = .returned (.tuple #[v, .int .i64 c]) ∧ Kd.ints.Sl w' (fun b => w.heap.size ≤ b) R v ∧ Below w.heap.size w w'
theorem ints_info : (Try.prog.info? 31).map (fun i => (i.zero, i.size, i.bytes)) = some (some (.slice none 0 0), 1, 24) := by kernel_rfl

set_option maxHeartbeats 2000000 in
theorem task_before (s : Shop) (F : Nat → Prop) (v : Value) (w : World) (h : ShopAt w F s v) (hc : checkOf s = 0) :
    Calls Try.prog 26 #[v] w (RetLL (befLists s.tasks) 0 w) := by
  obtain ⟨l1, _, Z, hnl, _⟩ := zero_of_check s hc
  have hlen : (orderOf s.tasks).length = s.tasks.length := by have := orderOf_len s.tasks; omega
  obtain ⟨v1, v2, rfl, h1, h2⟩ := h
  have hS := Lib.hid (show ∀ W, Below w.heap.size w W → ShopAt W F s (.agg #[v1, v2]) from fun W hW => ⟨v1, v2, rfl, h1.keep (Agree.below hW), h2.keep (Agree.below hW)⟩)
  have hB := Boxed.start w v1 v2 25
  have hcall := check_calls s F _ _ (hS.out _ hB.below)
  have hbef := fun W (hW : Below w.heap.size w W) => before_calls s F _ W (hS.out W hW) (afterOk_of _ Z) l1
  have HE := Lib.hid (show befLists s.tasks = (List.range s.tasks.length).map (fun i => truesUpto (befAt s.tasks i) s.tasks.length) from rfl)
  rw [hc] at hcall
  clear hc Z hnl h1 h2
  generalize befLists s.tasks = R at *
  go_enter Try.func26, Try.ntmps26
  go_wp2_with fail
  refine hcall.mono ?_
  rintro e w1 ⟨rfl, hb1⟩
  have hB1 := hB.later hb1
  have k0 := hB1.c0
  have k1 := hB1.c1
  clear hB hcall hb1
  go_wp2_with fail
  refine (hbef _ hB1.below).mono ?_
  rintro e w2 ⟨rows, rfl, hm, hb2⟩
  have hbw := below_then hB1.below hB1.below.size hb2
  have HR := Lib.hid (RowsAt.of hm rfl hlen)
  clear hm hbef k0 k1 hB1 hb2 hS hlen
  generalize befAt s.tasks = f at *
  generalize s.tasks.length = n at *
  generalize w1.heap.size + 1 = g at *
  go_wp2_with fail
  go_loopw [5, 7, 8, 9, 10, 19] (fun i5 _ _ _ _ i19 wr => ∃ (k : Nat) (G : Nat → Prop) (ys : List (List Int)), k ≤ n ∧ i19 = .int .i64 k ∧ Kd.ints.Own 31 wr w2.heap.size G i5 ys ∧ Below w2.heap.size w2 wr ∧ (∀ b, G b → w2.heap.size ≤ b ∧ b < wr.heap.size) ∧ Hid (ys = (List.range k).map (fun i => truesUpto (f i) n))) (fun _ _ _ _ _ i19 _ => n - (intOf i19).toNat)
  case atStart => exact ⟨0, fun _ => False, [], Nat.zero_le _, rfl, Kd.Own.nil _ _ _ _ _, Below.refl _ _, fun _ h => h.elim, Lib.hid rfl⟩
  case round =>
    obtain ⟨k, G, ys, hk, rfl, ho, hb, hG, H⟩ := hrel
    obtain ⟨yA, yc, rfl, _⟩ := ho.slice
    by_cases hlt : k < n
    · obtain ⟨hg, hrows⟩ := HR.out.below hb
      obtain ⟨r, c, hr, c0, hrow⟩ := hrows k hlt
      have HS : Hid ((List.range (k+1)).map (fun i => truesUpto (f i) n) = ys ++ [truesUpto (f k) n]) := Lib.hid (by rw [List.range_succ, List.map_append, ← H.out]; rfl)
      have hyl : (ys.length + 1) * 24 ≤ 140737488355328 := by rw [H.out]; simp; omega
      have hlt' : (k : Int) < (n : Int) := by omega
      have HROW := Lib.hid hrow
      clear hrow hrows
      generalize f k = q at *
      obtain ⟨W3, rfl⟩ : ∃ W3 : World, W3 = wr := ⟨_, rfl⟩
      go_wp2_with fail
      clear c0
      go_loopw [8, 9, 10, 25] (fun i8 _ _ i25 wx => ∃ (j : Nat) (xs : List Int), j ≤ n ∧ i25 = .int .i64 j ∧ Kd.int.Own 3 wx W3.heap.size Kd.NoB i8 xs ∧ Below W3.heap.size W3 wx ∧ Hid (xs = truesUpto q j)) (fun _ _ _ i25 _ => n - (intOf i25).toNat)
      case atStart => exact ⟨0, [], Nat.zero_le _, rfl, Kd.Own.nil _ _ _ _ _, Below.refl _ _, Lib.hid rfl⟩
      case round =>
        obtain ⟨j, xs, hj, rfl, ho2, hb2, H2⟩ := hrel
        obtain ⟨xA, xc, rfl, _⟩ := ho2.slice
        by_cases hlt2 : j < n
        · have c1 := (hb2.cell (p := ⟨r, j, none⟩) hr).trans (HROW.out j hlt2)
          have HS2 : Hid (truesUpto q (j+1) = xs ++ (if q j = true then [(j : Int)] else [])) := Lib.hid (by rw [truesUpto, ← H2.out])
          have hxl : (xs.length + 1) * 8 ≤ 140737488355328 := by have := truesUpto_len q j; rw [← H2.out] at this; omega
          have hlt2' : (j : Int) < (n : Int) := by omega
          generalize q j = x at *
          cases x with
          | false =>
            go_wp2_with fail
            go_roundw
            case rel => exact ⟨j+1, xs, by omega, by go_num, ho2, hb2, Lib.hid (by rw [HS2.out]; simp)⟩
            case measure => simp [intOf]; omega
          | true =>
            go_wp2_with (at_builtin; go_must (refine Kd.app_at Kd.int W3.heap.size Kd.NoB rfl (.tmp 31) (.tmp 33) 31 3 (.int .i64 0) 8 rfl Try.underlying31 int_info rfl (by decide) (by omega) (.slice xA xs.length xc) xs (j : Int) #[.int .i64 j] rfl _ rfl rfl ⟨rfl, trivial⟩ ho2 hb2.size (fun b hb => hb.elim) hxl ?_; intro v1 w6 ho6 hg6 hat6; obtain ⟨nA, nc, rfl, _⟩ := ho6.slice))
            have hrow : ∀ j, (Value.slice xA xs.length xc).ownBlock = some j → W3.heap.size ≤ j := fun j hj => (ho2.lt j hj).1
            go_roundw
            case rel =>
              rw [List.length_append] at ho6
              exact ⟨j+1, _, by omega, by go_num, ho6, hb2.grown hg6 hb2.size hrow, Lib.hid (by rw [HS2.out]; simp)⟩
            case measure => simp [intOf]; omega
        · have HX : Hid (xs = truesUpto q n) := Lib.hid (by rw [H2.out, show j = n by omega])
          have hz2 := hb2.size
          have hz := hb.size
          have hO := (ho.below hb2).more (F' := fun b => G b ∨ (Value.slice xA xs.length xc).ownBlock = some b) (fun j hj => .inl hj) (fun b hb e => by
            rcases hb with hb | hb
            · obtain ⟨_, _, _, h3⟩ := ho
              exact h3 b hb e
            · have := (ho2.lt b hb).1; have := (ho.lt b e).2; omega)
          have hK : Kd.ints.K wr (fun b => G b ∨ (Value.slice xA xs.length xc).ownBlock = some b) xs (#[Value.slice xA xs.length xc] : Array Value).toList := ⟨_, rfl, ho2.sl.mono (by decide) (fun j hj _ => hj.elim (fun h => h.elim) (fun h => .inr h))⟩
          have hFl : ∀ b, (G b ∨ (Value.slice xA xs.length xc).ownBlock = some b) → w2.heap.size ≤ b ∧ b < wr.heap.size := fun b hb => by
            rcases hb with hb | hb
            · have := hG b hb; omega
            · have := ho2.lt b hb; omega
          have hb3 := hb.trans (hb2.mono hz)
          have hgr := fun W (hg : wr.grownBy W (Value.slice yA ys.length yc).ownBlock) => hb3.grown hg hb3.size (fun j hj => (ho.lt j hj).1)
          go_wp2_with (at_builtin; go_must (refine Kd.app_at Kd.ints w2.heap.size _ rfl (.tmp 36) (.tmp 38) 51 31 (.slice none 0 0) 24 rfl Try.underlying51 ints_info rfl (by decide) (by omega) (.slice yA ys.length yc) ys xs #[.slice xA xs.length xc] rfl _ rfl rfl hK hO hb3.size (fun j hj => (hFl j hj).2) hyl ?_; intro v1 w6 ho6 hg6 hat6; obtain ⟨nA, nc, rfl, _⟩ := ho6.slice))
          go_roundw
          case rel =>
            rw [List.length_append] at ho6
            exact ⟨k+1, _, _, by omega, by go_num, ho6, hgr _ hg6, fun b hb => ⟨(hFl b hb).1, Nat.lt_of_lt_of_le (hFl b hb).2 hg6.size⟩, Lib.hid (by rw [HS.out, HX.out])⟩
          case measure => simp [intOf]; omega
    · have hR : Hid (R = ys) := Lib.hid (by rw [HE.out, H.out, show k = n by omega])
      go_wp2_with fail
      go_ret2
      exact ⟨_, rfl, by rw [hR.out]; exact ho.sl_to (by decide) (fun b hb _ => by have := (hG b hb).1; have := hbw.size; omega) (fun b hb _ => by have := hbw.size; omega), below_then hbw hbw.size hb⟩
end Go.Proofs.Ythigebbihclbiaa
