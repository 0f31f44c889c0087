/- The law's example shop. -/
import Derived.Test.YthigebbihclbiaaRedW
import Derived.Test.YthigebbihclbiaaLawShop
import Derived.KernelRfl
namespace Go.Proofs.Ythigebbihclbiaa
open Go.RowKit

def exShop : Shop := ⟨[⟨⟨#[97]⟩, 3, ⟨#[]⟩, []⟩, ⟨⟨#[98]⟩, 2, ⟨#[]⟩, [0]⟩, ⟨⟨#[99]⟩, 4, ⟨#[]⟩, [0]⟩, ⟨⟨#[100]⟩, 1, ⟨#[]⟩, [0, 1, 2]⟩], [⟨⟨#[115]⟩, []⟩]⟩

theorem Kd.Own.lit {α : Type} {d : Kd α} {e : TypeId} (W : World) (base : Nat) (F : Nat → Prop) (cs : Array Value) (xs : List α) (hb : base ≤ W.heap.size) (hl : xs.length ≤ 1000000) (hc : d.Cs W F xs cs.toList) (hF : ∀ b, F b → b < W.heap.size) :
    d.Own e (W.alloc (.cells cs e)) base F (.slice (some ⟨W.heap.size, 0, none⟩) xs.length xs.length) xs := by
  refine ⟨cs.toList, World.ownsRow_lit (base := base) (e := e) (size := d.sz) W cs xs.length hb (by simp only [maxLen]; omega) (by simpa using hc.1), hc.keep (Agree.below (below_one _ _)), fun b h e => ?_⟩
  have := hF b h
  simp [Value.ownBlock] at e
  omega

theorem results_c {P : Program} {fn : Func} {p : Tmp} {ty : TypeId} (h : fn.results = #[.cell p ty]) (tmps : Array Value) (w : World) (A : Addr) (v : Value) (hp : tmps.getD p undef = .pointer (some A)) (hl : (loadVar ty A).run P w = .ok v w) :
    (results fn tmps).run P w = .ok v w := by
  have hp' : tmps[p]?.getD undef = .pointer (some A) := by simpa using hp
  simp [results, h, hp', asAddr, hl, Sem.run_bind, Result.andThen]

def exW0 (w : World) : World := w.alloc (.cells #[.slice (some ⟨w.heap.size + 1 + 1 + 1 + 1, 0, none⟩) 4 4, .slice (some ⟨w.heap.size + 1 + 1 + 1 + 1 + 1, 0, none⟩) 1 1] 25)
def exW1 (w : World) : World := (exW0 w).alloc (.cells #[.int .i64 0] 3)
def exW2 (w : World) : World := (exW1 w).alloc (.cells #[.int .i64 0] 3)
def exW3 (w : World) : World := (exW2 w).alloc (.cells #[.int .i64 0, .int .i64 1, .int .i64 2] 3)
def exW4 (w : World) : World := (exW3 w).alloc (.cells #[.string ⟨#[97]⟩, .int .i64 3, .string ⟨#[]⟩, .slice none 0 0, .string ⟨#[98]⟩, .int .i64 2, .string ⟨#[]⟩, .slice (some ⟨w.heap.size + 1, 0, none⟩) 1 1,
  .string ⟨#[99]⟩, .int .i64 4, .string ⟨#[]⟩, .slice (some ⟨w.heap.size + 1 + 1, 0, none⟩) 1 1, .string ⟨#[100]⟩, .int .i64 1, .string ⟨#[]⟩, .slice (some ⟨w.heap.size + 1 + 1 + 1, 0, none⟩) 3 3] 42)
def exW5 (w : World) : World := (exW4 w).alloc (.cells #[.string ⟨#[115]⟩, .slice none 0 0] 59)
theorem exS0 (w : World) : (exW0 w).heap.size = w.heap.size + 1 := by simp [exW0]
theorem exS1 (w : World) : (exW1 w).heap.size = w.heap.size + 2 := by simp [exW1, exS0]
theorem exS2 (w : World) : (exW2 w).heap.size = w.heap.size + 3 := by simp [exW2, exS1]
theorem exS3 (w : World) : (exW3 w).heap.size = w.heap.size + 4 := by simp [exW3, exS2]
theorem exS4 (w : World) : (exW4 w).heap.size = w.heap.size + 5 := by simp [exW4, exS3]
theorem exB (w : World) : Below w.heap.size w (exW5 w) :=
  (((((below_one w _).trans ((below_one (exW0 w) _).mono (by rw [exS0]; omega))).trans ((below_one (exW1 w) _).mono (by rw [exS1]; omega))).trans ((below_one (exW2 w) _).mono (by rw [exS2]; omega))).trans ((below_one (exW3 w) _).mono (by rw [exS3]; omega))).trans ((below_one (exW4 w) _).mono (by rw [exS4]; omega))
theorem ex_ints (W Wx : World) (B : Nat) (cs : List Int) (n : Nat) (hn : n = cs.length) (hl : cs.length ≤ 1000000) (hB : B ≤ W.heap.size) (hx : Below (W.heap.size + 1) (W.alloc (.cells (cs.map (Value.int .i64)).toArray 3)) Wx) :
    Kd.int.Sl Wx (fun b => B ≤ b ∧ b < W.heap.size + 1) cs (.slice (some ⟨W.heap.size, 0, none⟩) n n) := by
  subst hn
  have h := (Kd.Own.lit (d := Kd.int) (e := 3) W B Kd.NoB (cs.map (Value.int .i64)).toArray cs hB hl (Kd.Cs.scal_iff.2 ⟨rfl, fun _ _ => trivial⟩) (fun _ h => h.elim)).below (hx.mono (by simp))
  have := h.sl
  refine this.mono (by decide) (fun b hb _ => hb.elim (fun h => h.elim) (fun e => ?_))
  simp [Value.ownBlock] at e
  omega
theorem ex_shop (w : World) : ShopAt (exW5 w) (fun b => w.heap.size ≤ b) exShop (.agg #[.slice (some ⟨w.heap.size + 1 + 1 + 1 + 1, 0, none⟩) 4 4, .slice (some ⟨w.heap.size + 1 + 1 + 1 + 1 + 1, 0, none⟩) 1 1]) := by
  have b12 := (below_one (exW1 w) (.cells #[.int .i64 0] 3))
  have b23 := (below_one (exW2 w) (.cells #[.int .i64 0, .int .i64 1, .int .i64 2] 3))
  have a1 := ex_ints (exW0 w) (exW3 w) w.heap.size [0] 1 rfl (by decide) (by rw [exS0]; omega) ((b12.mono (by rw [exS1, exS0]; omega)).trans (b23.mono (by rw [exS2, exS0]; omega)))
  have a2 := ex_ints (exW1 w) (exW3 w) w.heap.size [0] 1 rfl (by decide) (by rw [exS1]; omega) (b23.mono (by rw [exS2, exS1]; omega))
  have a3 := ex_ints (exW2 w) (exW3 w) w.heap.size [0, 1, 2] 3 rfl (by decide) (by rw [exS2]; omega) (Below.refl _ _)
  rw [exS0] at a1; rw [exS1] at a2; rw [exS2] at a3
  have up : ∀ {xs v N}, N ≤ w.heap.size + 4 → Kd.int.Sl (exW3 w) (fun b => w.heap.size ≤ b ∧ b < N) xs v → Kd.int.Sl (exW3 w) (fun b => w.heap.size ≤ b ∧ b < w.heap.size + 4) xs v := fun hN h => h.mono (by decide) (fun b hb _ => ⟨hb.1, by omega⟩)
  have t0 : Kd.task.K (exW3 w) (fun b => w.heap.size ≤ b ∧ b < w.heap.size + 4) ⟨⟨#[97]⟩, 3, ⟨#[]⟩, []⟩ [.string ⟨#[97]⟩, .int .i64 3, .string ⟨#[]⟩, .slice none 0 0] := Kd.K_task.2 ⟨_, rfl, by decide, by decide, Kd.Sl.nil _ _ _⟩
  have t1 : Kd.task.K (exW3 w) (fun b => w.heap.size ≤ b ∧ b < w.heap.size + 4) ⟨⟨#[98]⟩, 2, ⟨#[]⟩, [0]⟩ [.string ⟨#[98]⟩, .int .i64 2, .string ⟨#[]⟩, .slice (some ⟨w.heap.size + 1, 0, none⟩) 1 1] := Kd.K_task.2 ⟨_, rfl, by decide, by decide, up (by omega) a1⟩
  have t2 : Kd.task.K (exW3 w) (fun b => w.heap.size ≤ b ∧ b < w.heap.size + 4) ⟨⟨#[99]⟩, 4, ⟨#[]⟩, [0]⟩ [.string ⟨#[99]⟩, .int .i64 4, .string ⟨#[]⟩, .slice (some ⟨w.heap.size + 1 + 1, 0, none⟩) 1 1] := Kd.K_task.2 ⟨_, rfl, by decide, by decide, up (by omega) a2⟩
  have t3 : Kd.task.K (exW3 w) (fun b => w.heap.size ≤ b ∧ b < w.heap.size + 4) ⟨⟨#[100]⟩, 1, ⟨#[]⟩, [0, 1, 2]⟩ [.string ⟨#[100]⟩, .int .i64 1, .string ⟨#[]⟩, .slice (some ⟨w.heap.size + 1 + 1 + 1, 0, none⟩) 3 3] := Kd.K_task.2 ⟨_, rfl, by decide, by decide, up (by omega) a3⟩
  have hT := Kd.Own.lit (d := Kd.task) (e := 42) (exW3 w) w.heap.size (fun b => w.heap.size ≤ b ∧ b < w.heap.size + 4) #[.string ⟨#[97]⟩, .int .i64 3, .string ⟨#[]⟩, .slice none 0 0, .string ⟨#[98]⟩, .int .i64 2, .string ⟨#[]⟩, .slice (some ⟨w.heap.size + 1, 0, none⟩) 1 1,
    .string ⟨#[99]⟩, .int .i64 4, .string ⟨#[]⟩, .slice (some ⟨w.heap.size + 1 + 1, 0, none⟩) 1 1, .string ⟨#[100]⟩, .int .i64 1, .string ⟨#[]⟩, .slice (some ⟨w.heap.size + 1 + 1 + 1, 0, none⟩) 3 3] exShop.tasks (by rw [exS3]; omega) (by decide)
    ((Kd.Cs.single t0).append ((Kd.Cs.single t1).append ((Kd.Cs.single t2).append (Kd.Cs.single t3)))) (fun b hb => by rw [exS3]; exact hb.2)
  have hS := Kd.Own.lit (d := Kd.station) (e := 59) (exW4 w) w.heap.size (fun b => w.heap.size ≤ b ∧ b < w.heap.size + 4) #[.string ⟨#[115]⟩, .slice none 0 0] exShop.stations (by rw [exS4]; omega) (by decide)
    (Kd.Cs.single (Kd.K_station.2 ⟨_, rfl, by decide, Kd.Sl.nil _ _ _⟩)) (fun b hb => by rw [exS4]; omega)
  have hT5 := (hT.below (below_one (exW4 w) (.cells #[.string ⟨#[115]⟩, .slice none 0 0] 59))).sl_to (by decide) (F' := fun b => w.heap.size ≤ b) (fun b hb _ => hb.1) (fun b hb _ => hb)
  have hS5 := hS.sl_to (by decide) (F' := fun b => w.heap.size ≤ b) (fun b hb _ => hb.1) (fun b hb _ => hb)
  rw [exS3] at hT5
  rw [exS4] at hS5
  exact ⟨_, _, rfl, hT5, hS5⟩

set_option maxHeartbeats 1000000 in
theorem example_calls (w : World) : Calls Try.prog 30 #[] w fun e w' => ∃ v, e = .returned v ∧ ShopAt w' (fun b => w.heap.size ≤ b) exShop v ∧ Below w.heap.size w w' := by
  go_enter Try.func30, Try.ntmps30
  go_wp2_with fail
  (try simp only [Exit.inBlock, Exit.then])
  refine bodyPost_ret (results_c rfl _ _ _ (.agg #[.slice (some ⟨w.heap.size + 1 + 1 + 1 + 1, 0, none⟩) 4 4, .slice (some ⟨w.heap.size + 1 + 1 + 1 + 1 + 1, 0, none⟩) 1 1]) rfl (by go_simp)) rfl ?_
  exact ⟨_, rfl, ex_shop w, exB w⟩
end Go.Proofs.Ythigebbihclbiaa

/- What the functions give for the law's example. -/
namespace Go.Proofs.Ythigebbihclbiaa
open Go.RowKit
theorem ex_check : checkOf exShop = 0 := by kernel_rfl
theorem ex_order : orderPub exShop = [0, 1, 2, 3] := by kernel_rfl
theorem ex_tails : tailsPub exShop = [8, 3, 5, 1] := by kernel_rfl
theorem ex_len : critLen exShop = 8 := by kernel_rfl
theorem ex_path : critPath exShop = [0, 2, 3] := by kernel_rfl
theorem ex_len4 : (reducePub exShop).tasks.length = 4 := by kernel_rfl
theorem ex_red3 : ((reducePub exShop).tasks[3]'(by rw [ex_len4]; decide)).after = [1, 2] := by kernel_rfl
theorem ex_o (F : Nat → Prop) (v : Value) (w : World) (h : ShopAt w F exShop v) : Calls Try.prog 25 #[v] w (RetL [0, 1, 2, 3] 0 w) := by
  have := task_order exShop F v w h
  rwa [ex_order, ex_check] at this
theorem ex_t (F : Nat → Prop) (v : Value) (w : World) (h : ShopAt w F exShop v) : Calls Try.prog 15 #[v] w (RetL [8, 3, 5, 1] 0 w) := by
  have := task_tails exShop F v w h
  rwa [ex_tails, ex_check] at this
theorem ex_c (F : Nat → Prop) (v : Value) (w : World) (h : ShopAt w F exShop v) : Calls Try.prog 16 #[v] w (RetC 8 [0, 2, 3] 0 w) := by
  have := task_critical exShop F v w h
  rwa [ex_len, ex_path, ex_check] at this
/-- What known looks at of the reduced shop. -/
def RetR (w : World) (e : Ending) (w' : World) : Prop := ∃ r o c B n d A3 c3, e = .returned (.tuple #[.agg #[.slice (some ⟨r, o, none⟩) 4 c, .slice B n d], .int .i64 0]) ∧ r < w'.heap.size ∧ 4 ≤ c ∧ w'.cell? ⟨r, o + 3 * 4 + 3, none⟩ = some (.slice A3 2 c3) ∧ Kd.int.Sl w' (fun b => w.heap.size ≤ b) [1, 2] (.slice A3 2 c3) ∧ Below w.heap.size w w'
theorem ex_r (F : Nat → Prop) (v : Value) (w : World) (h : ShopAt w F exShop v) : Calls Try.prog 17 #[v] w (RetR w) := by
  refine (task_reduce exShop F v w h (by decide) (by decide)).mono ?_
  rintro e w' ⟨rv, rfl, ⟨a, b, rfl, ⟨A, c, rfl, hc, _, hr⟩, ⟨B, d, rfl, _⟩⟩, hb⟩
  have hl := ex_len4
  obtain ⟨b', o, A3, c3, rfl, _, hlt, _, _, _, h3, hK⟩ := task_at hr 3 (by rw [hl]; decide)
  have hA := Kd.K_after hK
  rw [ex_red3] at hA h3
  rw [ex_check, hl]
  exact ⟨b', o, c, B, _, d, A3, c3, rfl, hlt, by omega, h3, hA, hb⟩
end Go.Proofs.Ythigebbihclbiaa

/- The law's known: the example of the chapter. -/
namespace Go.Proofs.Ythigebbihclbiaa
open Go.RowKit

theorem same_self (xs : List Int) (n : Nat) (hn : n = xs.length) (hl : xs.length ≤ 1000000) (cs : Array Value) (hc : cs = (xs.map (Value.int .i64)).toArray) (F : Nat → Prop) (v : Value) (W : World) (h : Kd.int.Sl W F xs v) :
    Calls Try.prog 19 #[v, .slice (some ⟨W.heap.size, 0, none⟩) n n] (W.alloc (.cells cs 3)) fun e w' => e = .returned (.bool true) ∧ Below W.heap.size W w' := by
  subst hc
  have hb := below_one W (.cells (xs.map (Value.int .i64)).toArray 3)
  refine (law_same v _ F _ xs xs _ (h.keep (Agree.below hb)) (ex_ints W _ 0 xs n hn hl (Nat.zero_le _) (Below.refl _ _))).mono ?_
  rintro e w' ⟨rfl, hd⟩
  rw [eqBy_refl ieq (fun x => by simp [ieq])]
  exact ⟨rfl, hb.trans (hd.below _)⟩

set_option maxRecDepth 100000 in
set_option maxHeartbeats 2000000 in
theorem known_calls (w : World) : Calls Try.prog 10 #[] w fun e w' => e = .returned (.bool true) ∧ Below w.heap.size w w' := by
  have hex := example_calls w
  go_enter Try.func10, Try.ntmps10
  go_wp2_with fail
  refine hex.mono ?_
  rintro e w1 ⟨v, rfl, hv, hb1⟩
  clear hex
  have hS := Lib.hid (show ∀ W, Below w1.heap.size w1 W → ShopAt W (fun b => w.heap.size ≤ b) exShop v from fun W hW => hv.keep (Agree.below hW))
  obtain ⟨_, _, rfl, ⟨A, c, rfl, _⟩, ⟨B, d, rfl, _⟩⟩ := hv
  change Hid (∀ W, Below w1.heap.size w1 W → ShopAt W (fun b => w.heap.size ≤ b) exShop (.agg #[.slice A 4 c, .slice B 1 d])) at hS
  rw [show exShop.tasks.length = 4 from rfl, show exShop.stations.length = 1 from rfl]
  have hB1 := Boxed.start w1 (.slice A 4 c) (.slice B 1 d) 25
  have hz1 := hb1.size
  have H1 := Lib.hid (fun W (hW : Below w1.heap.size w1 W) => ex_o _ _ W (hS.out W hW))
  have H2 := Lib.hid (fun W (hW : Below w1.heap.size w1 W) => ex_t _ _ W (hS.out W hW))
  have H3 := Lib.hid (fun W (hW : Below w1.heap.size w1 W) => ex_c _ _ W (hS.out W hW))
  have H4 := Lib.hid (fun W (hW : Below w1.heap.size w1 W) => ex_r _ _ W (hS.out W hW))
  clear hS
  go_upto_region 2 with fail
  generalize w1.alloc (.cells #[.slice A 4 c, .slice B 1 d] 25) = w2 at *
  have k0 := hB1.c0
  have k1 := hB1.c1
  go_wp2_with fail
  refine (H1.out _ hB1.below).mono ?_
  rintro e w3 ⟨o, rfl, ho, hb3⟩
  obtain ⟨oA, oc, rfl, _, _, _⟩ := id ho
  have hB3 := hB1.later hb3
  replace ho := ho.mono (F' := fun b => w1.heap.size ≤ b) (by decide) (fun b hb _ => Nat.le_trans hB1.below.size hb)
  clear k0 k1 hb3 H1
  have k0 := hB3.c0
  have k1 := hB3.c1
  go_wp2_with fail
  refine (H2.out _ hB3.below).mono ?_
  rintro e w4 ⟨t, rfl, ht, hb4⟩
  obtain ⟨tA, tc, rfl, _, _, _⟩ := id ht
  have hB4 := hB3.later hb4
  replace ho := ho.keep (Agree.below hb4)
  replace ht := ht.mono (F' := fun b => w1.heap.size ≤ b) (by decide) (fun b hb _ => Nat.le_trans hB3.below.size hb)
  clear k0 k1 hb4 H2
  have k0 := hB4.c0
  have k1 := hB4.c1
  go_wp2_with fail
  refine (H3.out _ hB4.below).mono ?_
  rintro e w5 ⟨p, rfl, hp, hb5⟩
  obtain ⟨pA, pc, rfl, _, _, _⟩ := id hp
  have hB5 := hB4.later hb5
  replace ho := ho.keep (Agree.below hb5)
  replace ht := ht.keep (Agree.below hb5)
  replace hp := hp.mono (F' := fun b => w1.heap.size ≤ b) (by decide) (fun b hb _ => Nat.le_trans hB4.below.size hb)
  clear k0 k1 hb5 H3
  have k0 := hB5.c0
  have k1 := hB5.c1
  go_wp2_with fail
  refine (H4.out _ hB5.below).mono ?_
  rintro e w6 ⟨r, ro, rc, R, n, rd, A3, c3, rfl, hlr, hrc, h3, hr, hb6⟩
  have hB6 := hB5.later hb6
  replace ho := ho.keep (Agree.below hb6)
  replace ht := ht.keep (Agree.below hb6)
  replace hp := hp.keep (Agree.below hb6)
  clear k0 k1 hb6 H4
  go_upto_region 6 with fail
  have hB7 := Boxed.start w6 (.slice (some ⟨r, ro, none⟩) 4 rc) (.slice R n rd) 25
  have hb7 := below_one w6 (.cells #[.slice (some ⟨r, ro, none⟩) 4 rc, .slice R n rd] 25)
  replace ho := ho.keep (Agree.below hb7)
  replace ht := ht.keep (Agree.below hb7)
  replace hp := hp.keep (Agree.below hb7)
  replace hr := hr.keep (Agree.below hb7)
  replace h3 := (hb7.cell (show r < _ from hlr)).trans h3
  have hl7 : r < (w6.alloc (.cells #[.slice (some ⟨r, ro, none⟩) 4 rc, .slice R n rd] 25)).heap.size := by simp; omega
  have hB := hB6.below.trans (hb7.mono hB6.below.size)
  clear hb7 hB6 hB5 hB4 hB3 hB1
  generalize w6.alloc (.cells #[.slice (some ⟨r, ro, none⟩) 4 rc, .slice R n rd] 25) = w7 at *
  try simp only [List.length_cons, List.length_nil, Nat.zero_add, Nat.reduceAdd]
  go_wp2_with fail
  refine (same_self [0, 1, 2, 3] 4 rfl (by decide) _ rfl _ _ w7 ho).mono ?_
  rintro e w8 ⟨rfl, hb8⟩
  clear ho
  replace ht := ht.keep (Agree.below hb8)
  go_wp2_with fail
  refine (same_self [8, 3, 5, 1] 4 rfl (by decide) _ rfl _ _ w8 ht).mono ?_
  rintro e w9 ⟨rfl, hb9⟩
  clear ht
  replace hb8 := below_then hb8 hb8.size hb9
  replace hp := hp.keep (Agree.below hb8)
  go_wp2_with fail
  refine (same_self [0, 2, 3] 3 rfl (by decide) _ rfl _ _ w9 hp).mono ?_
  rintro e w10 ⟨rfl, hb10⟩
  clear hp
  replace hb8 := below_then hb8 hb8.size hb10
  clear hb9 hb10
  have j0 := (hB7.later hb8).c0
  replace h3 := (hb8.cell (show r < _ from hl7)).trans h3
  replace hr := hr.keep (Agree.below hb8)
  have hl10 : r < w10.heap.size := by have := hb8.size; omega
  have hw6 : w6.heap.size < w10.heap.size := by have := hB7.size; have := hb8.size; omega
  replace hB := below_then hB hB.size hb8
  clear hB7 hl7 hlr
  go_wp2_with fail
  refine (same_self [1, 2] 2 rfl (by decide) _ rfl _ _ w10 hr).mono ?_
  rintro e w11 ⟨rfl, hb11⟩
  replace hB := below_then hB hB.size hb11
  go_wp2_with fail
  go_ret
  exact ⟨rfl, below_then hb1 hb1.size hB⟩
end Go.Proofs.Ythigebbihclbiaa
