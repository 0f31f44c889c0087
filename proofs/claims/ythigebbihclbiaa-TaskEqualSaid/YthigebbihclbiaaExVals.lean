/- What the functions give for the law's example. -/
import Derived.Test.YthigebbihclbiaaExample
import Derived.KernelRfl
namespace Go.Proofs.Ythigebbihclbiaa
open Go.RowKit
theorem ex_check : checkOf exShop = 0 := by kernel_rfl
theorem ex_order : orderPub exShop = [0, 1, 2, 3] := by kernel_rfl
theorem ex_tails : tailsPub exShop = [8, 3, 5, 1] := by kernel_rfl
theorem ex_len : critLen exShop = 8 := by kernel_rfl
theorem ex_path : critPath exShop = [0, 2, 3] := by kernel_rfl
theorem ex_len4 : (reducePub exShop).tasks.length = 4 := by kernel_rfl
theorem ex_red3 : ((reducePub exShop).tasks[3]'(by rw [ex_len4]; decide)).after = [1, 2] := by kernel_rfl
theorem ex_o (F : Nat → Prop) (v : Value) (w : World) (h : ShopAt w F exShop v) : Calls Try.prog 25 #[v] w (RetL [0, 1, 2, 3] 0 w) := by
  have := task_order exShop F v w h
  rwa [ex_order, ex_check] at this
theorem ex_t (F : Nat → Prop) (v : Value) (w : World) (h : ShopAt w F exShop v) : Calls Try.prog 15 #[v] w (RetL [8, 3, 5, 1] 0 w) := by
  have := task_tails exShop F v w h
  rwa [ex_tails, ex_check] at this
theorem ex_c (F : Nat → Prop) (v : Value) (w : World) (h : ShopAt w F exShop v) : Calls Try.prog 16 #[v] w (RetC 8 [0, 2, 3] 0 w) := by
  have := task_critical exShop F v w h
  rwa [ex_len, ex_path, ex_check] at this
/-- What known looks at of the reduced shop. -/
def RetR (w : World) (e : Ending) (w' : World) : Prop := ∃ r o c B n d A3 c3, e = .returned (.tuple #[.agg #[.slice (some ⟨r, o, none⟩) 4 c, .slice B n d], .int .i64 0]) ∧ r < w'.heap.size ∧ 4 ≤ c ∧ w'.cell? ⟨r, o + 3 * 4 + 3, none⟩ = some (.slice A3 2 c3) ∧ Kd.int.Sl w' (fun b => w.heap.size ≤ b) [1, 2] (.slice A3 2 c3) ∧ Below w.heap.size w w'
theorem ex_r (F : Nat → Prop) (v : Value) (w : World) (h : ShopAt w F exShop v) : Calls Try.prog 17 #[v] w (RetR w) := by
  refine (task_reduce exShop F v w h (by decide) (by decide)).mono ?_
  rintro e w' ⟨rv, rfl, ⟨a, b, rfl, ⟨A, c, rfl, hc, _, hr⟩, ⟨B, d, rfl, _⟩⟩, hb⟩
  have hl := ex_len4
  obtain ⟨b', o, A3, c3, rfl, _, hlt, _, _, _, h3, hK⟩ := task_at hr 3 (by rw [hl]; decide)
  have hA := Kd.K_after hK
  rw [ex_red3] at hA h3
  rw [ex_check, hl]
  exact ⟨b', o, c, B, _, d, A3, c3, rfl, hlt, by omega, h3, hA, hb⟩
end Go.Proofs.Ythigebbihclbiaa
