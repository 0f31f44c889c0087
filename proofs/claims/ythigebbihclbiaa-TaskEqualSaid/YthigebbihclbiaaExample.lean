/- The law's example shop. -/
import Derived.Test.YthigebbihclbiaaRedW
import Derived.Test.YthigebbihclbiaaLawShop
namespace Go.Proofs.Ythigebbihclbiaa
open Go.RowKit

def exShop : Shop := ⟨[⟨⟨#[97]⟩, 3, ⟨#[]⟩, []⟩, ⟨⟨#[98]⟩, 2, ⟨#[]⟩, [0]⟩, ⟨⟨#[99]⟩, 4, ⟨#[]⟩, [0]⟩, ⟨⟨#[100]⟩, 1, ⟨#[]⟩, [0, 1, 2]⟩], [⟨⟨#[115]⟩, []⟩]⟩

theorem Kd.Own.lit {α : Type} {d : Kd α} {e : TypeId} (W : World) (base : Nat) (F : Nat → Prop) (cs : Array Value) (xs : List α) (hb : base ≤ W.heap.size) (hl : xs.length ≤ 1000000) (hc : d.Cs W F xs cs.toList) (hF : ∀ b, F b → b < W.heap.size) :
    d.Own e (W.alloc (.cells cs e)) base F (.slice (some ⟨W.heap.size, 0, none⟩) xs.length xs.length) xs := by
  refine ⟨cs.toList, World.ownsRow_lit (base := base) (e := e) (size := d.sz) W cs xs.length hb (by simp only [maxLen]; omega) (by simpa using hc.1), hc.keep (Agree.below (below_one _ _)), fun b h e => ?_⟩
  have := hF b h
  simp [Value.ownBlock] at e
  omega

theorem results_c {P : Program} {fn : Func} {p : Tmp} {ty : TypeId} (h : fn.results = #[.cell p ty]) (tmps : Array Value) (w : World) (A : Addr) (v : Value) (hp : tmps.getD p undef = .pointer (some A)) (hl : (loadVar ty A).run P w = .ok v w) :
    (results fn tmps).run P w = .ok v w := by
  have hp' : tmps[p]?.getD undef = .pointer (some A) := by simpa using hp
  simp [results, h, hp', asAddr, hl, Sem.run_bind, Result.andThen]

def exW0 (w : World) : World := w.alloc (.cells #[.slice (some ⟨w.heap.size + 1 + 1 + 1 + 1, 0, none⟩) 4 4, .slice (some ⟨w.heap.size + 1 + 1 + 1 + 1 + 1, 0, none⟩) 1 1] 25)
def exW1 (w : World) : World := (exW0 w).alloc (.cells #[.int .i64 0] 3)
def exW2 (w : World) : World := (exW1 w).alloc (.cells #[.int .i64 0] 3)
def exW3 (w : World) : World := (exW2 w).alloc (.cells #[.int .i64 0, .int .i64 1, .int .i64 2] 3)
def exW4 (w : World) : World := (exW3 w).alloc (.cells #[.string ⟨#[97]⟩, .int .i64 3, .string ⟨#[]⟩, .slice none 0 0, .string ⟨#[98]⟩, .int .i64 2, .string ⟨#[]⟩, .slice (some ⟨w.heap.size + 1, 0, none⟩) 1 1,
  .string ⟨#[99]⟩, .int .i64 4, .string ⟨#[]⟩, .slice (some ⟨w.heap.size + 1 + 1, 0, none⟩) 1 1, .string ⟨#[100]⟩, .int .i64 1, .string ⟨#[]⟩, .slice (some ⟨w.heap.size + 1 + 1 + 1, 0, none⟩) 3 3] 42)
def exW5 (w : World) : World := (exW4 w).alloc (.cells #[.string ⟨#[115]⟩, .slice none 0 0] 59)
theorem exS0 (w : World) : (exW0 w).heap.size = w.heap.size + 1 := by simp [exW0]
theorem exS1 (w : World) : (exW1 w).heap.size = w.heap.size + 2 := by simp [exW1, exS0]
theorem exS2 (w : World) : (exW2 w).heap.size = w.heap.size + 3 := by simp [exW2, exS1]
theorem exS3 (w : World) : (exW3 w).heap.size = w.heap.size + 4 := by simp [exW3, exS2]
theorem exS4 (w : World) : (exW4 w).heap.size = w.heap.size + 5 := by simp [exW4, exS3]
theorem exB (w : World) : Below w.heap.size w (exW5 w) :=
  (((((below_one w _).trans ((below_one (exW0 w) _).mono (by rw [exS0]; omega))).trans ((below_one (exW1 w) _).mono (by rw [exS1]; omega))).trans ((below_one (exW2 w) _).mono (by rw [exS2]; omega))).trans ((below_one (exW3 w) _).mono (by rw [exS3]; omega))).trans ((below_one (exW4 w) _).mono (by rw [exS4]; omega))
theorem ex_ints (W Wx : World) (B : Nat) (cs : List Int) (n : Nat) (hn : n = cs.length) (hl : cs.length ≤ 1000000) (hB : B ≤ W.heap.size) (hx : Below (W.heap.size + 1) (W.alloc (.cells (cs.map (Value.int .i64)).toArray 3)) Wx) :
    Kd.int.Sl Wx (fun b => B ≤ b ∧ b < W.heap.size + 1) cs (.slice (some ⟨W.heap.size, 0, none⟩) n n) := by
  subst hn
  have h := (Kd.Own.lit (d := Kd.int) (e := 3) W B Kd.NoB (cs.map (Value.int .i64)).toArray cs hB hl (Kd.Cs.scal_iff.2 ⟨rfl, fun _ _ => trivial⟩) (fun _ h => h.elim)).below (hx.mono (by simp))
  have := h.sl
  refine this.mono (by decide) (fun b hb _ => hb.elim (fun h => h.elim) (fun e => ?_))
  simp [Value.ownBlock] at e
  omega
theorem ex_shop (w : World) : ShopAt (exW5 w) (fun b => w.heap.size ≤ b) exShop (.agg #[.slice (some ⟨w.heap.size + 1 + 1 + 1 + 1, 0, none⟩) 4 4, .slice (some ⟨w.heap.size + 1 + 1 + 1 + 1 + 1, 0, none⟩) 1 1]) := by
  have b12 := (below_one (exW1 w) (.cells #[.int .i64 0] 3))
  have b23 := (below_one (exW2 w) (.cells #[.int .i64 0, .int .i64 1, .int .i64 2] 3))
  have a1 := ex_ints (exW0 w) (exW3 w) w.heap.size [0] 1 rfl (by decide) (by rw [exS0]; omega) ((b12.mono (by rw [exS1, exS0]; omega)).trans (b23.mono (by rw [exS2, exS0]; omega)))
  have a2 := ex_ints (exW1 w) (exW3 w) w.heap.size [0] 1 rfl (by decide) (by rw [exS1]; omega) (b23.mono (by rw [exS2, exS1]; omega))
  have a3 := ex_ints (exW2 w) (exW3 w) w.heap.size [0, 1, 2] 3 rfl (by decide) (by rw [exS2]; omega) (Below.refl _ _)
  rw [exS0] at a1; rw [exS1] at a2; rw [exS2] at a3
  have up : ∀ {xs v N}, N ≤ w.heap.size + 4 → Kd.int.Sl (exW3 w) (fun b => w.heap.size ≤ b ∧ b < N) xs v → Kd.int.Sl (exW3 w) (fun b => w.heap.size ≤ b ∧ b < w.heap.size + 4) xs v := fun hN h => h.mono (by decide) (fun b hb _ => ⟨hb.1, by omega⟩)
  have t0 : Kd.task.K (exW3 w) (fun b => w.heap.size ≤ b ∧ b < w.heap.size + 4) ⟨⟨#[97]⟩, 3, ⟨#[]⟩, []⟩ [.string ⟨#[97]⟩, .int .i64 3, .string ⟨#[]⟩, .slice none 0 0] := Kd.K_task.2 ⟨_, rfl, by decide, by decide, Kd.Sl.nil _ _ _⟩
  have t1 : Kd.task.K (exW3 w) (fun b => w.heap.size ≤ b ∧ b < w.heap.size + 4) ⟨⟨#[98]⟩, 2, ⟨#[]⟩, [0]⟩ [.string ⟨#[98]⟩, .int .i64 2, .string ⟨#[]⟩, .slice (some ⟨w.heap.size + 1, 0, none⟩) 1 1] := Kd.K_task.2 ⟨_, rfl, by decide, by decide, up (by omega) a1⟩
  have t2 : Kd.task.K (exW3 w) (fun b => w.heap.size ≤ b ∧ b < w.heap.size + 4) ⟨⟨#[99]⟩, 4, ⟨#[]⟩, [0]⟩ [.string ⟨#[99]⟩, .int .i64 4, .string ⟨#[]⟩, .slice (some ⟨w.heap.size + 1 + 1, 0, none⟩) 1 1] := Kd.K_task.2 ⟨_, rfl, by decide, by decide, up (by omega) a2⟩
  have t3 : Kd.task.K (exW3 w) (fun b => w.heap.size ≤ b ∧ b < w.heap.size + 4) ⟨⟨#[100]⟩, 1, ⟨#[]⟩, [0, 1, 2]⟩ [.string ⟨#[100]⟩, .int .i64 1, .string ⟨#[]⟩, .slice (some ⟨w.heap.size + 1 + 1 + 1, 0, none⟩) 3 3] := Kd.K_task.2 ⟨_, rfl, by decide, by decide, up (by omega) a3⟩
  have hT := Kd.Own.lit (d := Kd.task) (e := 42) (exW3 w) w.heap.size (fun b => w.heap.size ≤ b ∧ b < w.heap.size + 4) #[.string ⟨#[97]⟩, .int .i64 3, .string ⟨#[]⟩, .slice none 0 0, .string ⟨#[98]⟩, .int .i64 2, .string ⟨#[]⟩, .slice (some ⟨w.heap.size + 1, 0, none⟩) 1 1,
    .string ⟨#[99]⟩, .int .i64 4, .string ⟨#[]⟩, .slice (some ⟨w.heap.size + 1 + 1, 0, none⟩) 1 1, .string ⟨#[100]⟩, .int .i64 1, .string ⟨#[]⟩, .slice (some ⟨w.heap.size + 1 + 1 + 1, 0, none⟩) 3 3] exShop.tasks (by rw [exS3]; omega) (by decide)
    ((Kd.Cs.single t0).append ((Kd.Cs.single t1).append ((Kd.Cs.single t2).append (Kd.Cs.single t3)))) (fun b hb => by rw [exS3]; exact hb.2)
  have hS := Kd.Own.lit (d := Kd.station) (e := 59) (exW4 w) w.heap.size (fun b => w.heap.size ≤ b ∧ b < w.heap.size + 4) #[.string ⟨#[115]⟩, .slice none 0 0] exShop.stations (by rw [exS4]; omega) (by decide)
    (Kd.Cs.single (Kd.K_station.2 ⟨_, rfl, by decide, Kd.Sl.nil _ _ _⟩)) (fun b hb => by rw [exS4]; omega)
  have hT5 := (hT.below (below_one (exW4 w) (.cells #[.string ⟨#[115]⟩, .slice none 0 0] 59))).sl_to (by decide) (F' := fun b => w.heap.size ≤ b) (fun b hb _ => hb.1) (fun b hb _ => hb)
  have hS5 := hS.sl_to (by decide) (F' := fun b => w.heap.size ≤ b) (fun b hb _ => hb.1) (fun b hb _ => hb)
  rw [exS3] at hT5
  rw [exS4] at hS5
  exact ⟨_, _, rfl, hT5, hS5⟩

set_option maxHeartbeats 1000000 in
theorem example_calls (w : World) : Calls Try.prog 30 #[] w fun e w' => ∃ v, e = .returned v ∧ ShopAt w' (fun b => w.heap.size ≤ b) exShop v ∧ Below w.heap.size w w' := by
  go_enter Try.func30, Try.ntmps30
  go_wp2_with fail
  (try simp only [Exit.inBlock, Exit.then])
  refine bodyPost_ret (results_c rfl _ _ _ (.agg #[.slice (some ⟨w.heap.size + 1 + 1 + 1 + 1, 0, none⟩) 4 4, .slice (some ⟨w.heap.size + 1 + 1 + 1 + 1 + 1, 0, none⟩) 1 1]) rfl (by go_simp)) rfl ?_
  exact ⟨_, rfl, ex_shop w, exB w⟩
end Go.Proofs.Ythigebbihclbiaa
