/- The law's known: the example of the chapter. -/
import Derived.Test.YthigebbihclbiaaExVals
namespace Go.Proofs.Ythigebbihclbiaa
open Go.RowKit

theorem same_self (xs : List Int) (n : Nat) (hn : n = xs.length) (hl : xs.length ≤ 1000000) (cs : Array Value) (hc : cs = (xs.map (Value.int .i64)).toArray) (F : Nat → Prop) (v : Value) (W : World) (h : Kd.int.Sl W F xs v) :
    Calls Try.prog 19 #[v, .slice (some ⟨W.heap.size, 0, none⟩) n n] (W.alloc (.cells cs 3)) fun e w' => e = .returned (.bool true) ∧ Below W.heap.size W w' := by
  subst hc
  have hb := below_one W (.cells (xs.map (Value.int .i64)).toArray 3)
  refine (law_same v _ F _ xs xs _ (h.keep (Agree.below hb)) (ex_ints W _ 0 xs n hn hl (Nat.zero_le _) (Below.refl _ _))).mono ?_
  rintro e w' ⟨rfl, hd⟩
  rw [eqBy_refl ieq (fun x => by simp [ieq])]
  exact ⟨rfl, hb.trans (hd.below _)⟩

set_option maxRecDepth 100000 in
set_option maxHeartbeats 2000000 in
theorem known_calls (w : World) : Calls Try.prog 10 #[] w fun e w' => e = .returned (.bool true) ∧ Below w.heap.size w w' := by
  have hex := example_calls w
  go_enter Try.func10, Try.ntmps10
  go_wp2_with fail
  refine hex.mono ?_
  rintro e w1 ⟨v, rfl, hv, hb1⟩
  clear hex
  have hS := Lib.hid (show ∀ W, Below w1.heap.size w1 W → ShopAt W (fun b => w.heap.size ≤ b) exShop v from fun W hW => hv.keep (Agree.below hW))
  obtain ⟨_, _, rfl, ⟨A, c, rfl, _⟩, ⟨B, d, rfl, _⟩⟩ := hv
  change Hid (∀ W, Below w1.heap.size w1 W → ShopAt W (fun b => w.heap.size ≤ b) exShop (.agg #[.slice A 4 c, .slice B 1 d])) at hS
  rw [show exShop.tasks.length = 4 from rfl, show exShop.stations.length = 1 from rfl]
  have hB1 := Boxed.start w1 (.slice A 4 c) (.slice B 1 d) 25
  have hz1 := hb1.size
  have H1 := Lib.hid (fun W (hW : Below w1.heap.size w1 W) => ex_o _ _ W (hS.out W hW))
  have H2 := Lib.hid (fun W (hW : Below w1.heap.size w1 W) => ex_t _ _ W (hS.out W hW))
  have H3 := Lib.hid (fun W (hW : Below w1.heap.size w1 W) => ex_c _ _ W (hS.out W hW))
  have H4 := Lib.hid (fun W (hW : Below w1.heap.size w1 W) => ex_r _ _ W (hS.out W hW))
  clear hS
  go_upto_region 2 with fail
  generalize w1.alloc (.cells #[.slice A 4 c, .slice B 1 d] 25) = w2 at *
  have k0 := hB1.c0
  have k1 := hB1.c1
  go_wp2_with fail
  refine (H1.out _ hB1.below).mono ?_
  rintro e w3 ⟨o, rfl, ho, hb3⟩
  obtain ⟨oA, oc, rfl, _, _, _⟩ := id ho
  have hB3 := hB1.later hb3
  replace ho := ho.mono (F' := fun b => w1.heap.size ≤ b) (by decide) (fun b hb _ => Nat.le_trans hB1.below.size hb)
  clear k0 k1 hb3 H1
  have k0 := hB3.c0
  have k1 := hB3.c1
  go_wp2_with fail
  refine (H2.out _ hB3.below).mono ?_
  rintro e w4 ⟨t, rfl, ht, hb4⟩
  obtain ⟨tA, tc, rfl, _, _, _⟩ := id ht
  have hB4 := hB3.later hb4
  replace ho := ho.keep (Agree.below hb4)
  replace ht := ht.mono (F' := fun b => w1.heap.size ≤ b) (by decide) (fun b hb _ => Nat.le_trans hB3.below.size hb)
  clear k0 k1 hb4 H2
  have k0 := hB4.c0
  have k1 := hB4.c1
  go_wp2_with fail
  refine (H3.out _ hB4.below).mono ?_
  rintro e w5 ⟨p, rfl, hp, hb5⟩
  obtain ⟨pA, pc, rfl, _, _, _⟩ := id hp
  have hB5 := hB4.later hb5
  replace ho := ho.keep (Agree.below hb5)
  replace ht := ht.keep (Agree.below hb5)
  replace hp := hp.mono (F' := fun b => w1.heap.size ≤ b) (by decide) (fun b hb _ => Nat.le_trans hB4.below.size hb)
  clear k0 k1 hb5 H3
  have k0 := hB5.c0
  have k1 := hB5.c1
  go_wp2_with fail
  refine (H4.out _ hB5.below).mono ?_
  rintro e w6 ⟨r, ro, rc, R, n, rd, A3, c3, rfl, hlr, hrc, h3, hr, hb6⟩
  have hB6 := hB5.later hb6
  replace ho := ho.keep (Agree.below hb6)
  replace ht := ht.keep (Agree.below hb6)
  replace hp := hp.keep (Agree.below hb6)
  clear k0 k1 hb6 H4
  go_upto_region 6 with fail
  have hB7 := Boxed.start w6 (.slice (some ⟨r, ro, none⟩) 4 rc) (.slice R n rd) 25
  have hb7 := below_one w6 (.cells #[.slice (some ⟨r, ro, none⟩) 4 rc, .slice R n rd] 25)
  replace ho := ho.keep (Agree.below hb7)
  replace ht := ht.keep (Agree.below hb7)
  replace hp := hp.keep (Agree.below hb7)
  replace hr := hr.keep (Agree.below hb7)
  replace h3 := (hb7.cell (show r < _ from hlr)).trans h3
  have hl7 : r < (w6.alloc (.cells #[.slice (some ⟨r, ro, none⟩) 4 rc, .slice R n rd] 25)).heap.size := by simp; omega
  have hB := hB6.below.trans (hb7.mono hB6.below.size)
  clear hb7 hB6 hB5 hB4 hB3 hB1
  generalize w6.alloc (.cells #[.slice (some ⟨r, ro, none⟩) 4 rc, .slice R n rd] 25) = w7 at *
  try simp only [List.length_cons, List.length_nil, Nat.zero_add, Nat.reduceAdd]
  go_wp2_with fail
  refine (same_self [0, 1, 2, 3] 4 rfl (by decide) _ rfl _ _ w7 ho).mono ?_
  rintro e w8 ⟨rfl, hb8⟩
  clear ho
  replace ht := ht.keep (Agree.below hb8)
  go_wp2_with fail
  refine (same_self [8, 3, 5, 1] 4 rfl (by decide) _ rfl _ _ w8 ht).mono ?_
  rintro e w9 ⟨rfl, hb9⟩
  clear ht
  replace hb8 := below_then hb8 hb8.size hb9
  replace hp := hp.keep (Agree.below hb8)
  go_wp2_with fail
  refine (same_self [0, 2, 3] 3 rfl (by decide) _ rfl _ _ w9 hp).mono ?_
  rintro e w10 ⟨rfl, hb10⟩
  clear hp
  replace hb8 := below_then hb8 hb8.size hb10
  clear hb9 hb10
  have j0 := (hB7.later hb8).c0
  replace h3 := (hb8.cell (show r < _ from hl7)).trans h3
  replace hr := hr.keep (Agree.below hb8)
  have hl10 : r < w10.heap.size := by have := hb8.size; omega
  have hw6 : w6.heap.size < w10.heap.size := by have := hB7.size; have := hb8.size; omega
  replace hB := below_then hB hB.size hb8
  clear hB7 hl7 hlr
  go_wp2_with fail
  refine (same_self [1, 2] 2 rfl (by decide) _ rfl _ _ w10 hr).mono ?_
  rintro e w11 ⟨rfl, hb11⟩
  replace hB := below_then hB hB.size hb11
  go_wp2_with fail
  go_ret
  exact ⟨rfl, below_then hb1 hb1.size hB⟩
end Go.Proofs.Ythigebbihclbiaa
