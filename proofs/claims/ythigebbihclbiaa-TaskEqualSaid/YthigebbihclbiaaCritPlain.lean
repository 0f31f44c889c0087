/- Plain bounds for task.Critical. -/
import Derived.Test.YthigebbihclbiaaCritW
namespace Go.Proofs.Ythigebbihclbiaa
open Go.RowKit

theorem foldl_relax_len (i : Int) : ∀ (l o : List Int), (l.foldl (relax i) o).length = o.length
  | [], _ => rfl
  | k :: l, o => by rw [List.foldl_cons, foldl_relax_len i l, relax, List.length_set]
theorem foldl_relax_bd {m : Nat} (i : Int) : ∀ (l o : List Int), Bd m o → Bd m (l.foldl (relax i) o)
  | [], _, h => h
  | k :: l, o, h => by rw [List.foldl_cons]; exact foldl_relax_bd i l _ (h.relax i k)
theorem tailStep_len (ts : List Task) (o : List Int) (i : Int) : (tailStep ts o i).length = o.length := by
  rw [tailStep, foldl_relax_len, List.length_set]
theorem durOf_bd (ts : List Task) (hd : ∀ t ∈ ts, 1 ≤ t.dur ∧ t.dur ≤ 1048576) (i : Int) : 0 ≤ durOf ts i ∧ durOf ts i ≤ 1048576 := by
  unfold durOf
  split
  · rename_i t ht
    have := hd t (List.mem_of_getElem? ht)
    omega
  · omega
theorem tailStep_bd (ts : List Task) (hd : ∀ t ∈ ts, 1 ≤ t.dur ∧ t.dur ≤ 1048576) (m : Nat) (o : List Int) (i : Int) (h : Bd m o) : Bd (m + 1) (tailStep ts o i) := by
  refine foldl_relax_bd i _ _ (h.more.set _ _ ?_)
  have := h.geti i
  have := durOf_bd ts hd i
  omega
theorem tails_fold (ts : List Task) (hd : ∀ t ∈ ts, 1 ≤ t.dur ∧ t.dur ≤ 1048576) : ∀ (l : List Int) (m : Nat) (o : List Int), Bd m o → Bd (m + l.length) (l.foldl (tailStep ts) o) ∧ (l.foldl (tailStep ts) o).length = o.length
  | [], m, o, h => ⟨h, rfl⟩
  | i :: l, m, o, h => by
    obtain ⟨h1, h2⟩ := tails_fold ts hd l (m + 1) (tailStep ts o i) (tailStep_bd ts hd m o i h)
    rw [List.foldl_cons, List.length_cons]
    exact ⟨by rw [show m + (l.length + 1) = m + 1 + l.length by omega]; exact h1, by rw [h2, tailStep_len]⟩
theorem tailsOf_len (ts : List Task) (hd : ∀ t ∈ ts, 1 ≤ t.dur ∧ t.dur ≤ 1048576) : (tailsOf ts).length = ts.length := by
  rw [tailsOf, (tails_fold ts hd _ 0 _ (fun x hx => by rw [List.eq_of_mem_replicate hx]; omega)).2, List.length_replicate]
theorem tailsOf_bd (ts : List Task) (hd : ∀ t ∈ ts, 1 ≤ t.dur ∧ t.dur ≤ 1048576) : Bd ts.length (tailsOf ts) := by
  have h := (tails_fold ts hd (orderOf ts).reverse 0 (List.replicate ts.length 0) (fun x hx => by rw [List.eq_of_mem_replicate hx]; omega)).1
  have hl := orderOf_len ts
  intro x hx
  have := h x hx
  rw [List.length_reverse] at this
  refine ⟨this.1, Int.le_trans this.2 ?_⟩
  omega
theorem foldl_max_bd {m : Nat} : ∀ (l : List Int) (x : Int), Bd m l → (0 ≤ x ∧ x ≤ m * 1048576) → 0 ≤ l.foldl max x ∧ l.foldl max x ≤ m * 1048576
  | [], _, _, h => h
  | y :: l, x, hl, h => by
    have hy := hl y List.mem_cons_self
    exact foldl_max_bd l (max x y) (fun z hz => hl z (List.mem_cons_of_mem _ hz)) (by omega)
theorem maxOf_bd {m : Nat} (l : List Int) (h : Bd m l) : 0 ≤ maxOf l ∧ maxOf l ≤ m * 1048576 := by
  cases l with
  | nil => simp only [maxOf]; omega
  | cons x l => exact foldl_max_bd l x (fun z hz => h z (List.mem_cons_of_mem _ hz)) (h x List.mem_cons_self)

def critLen (s : Shop) : Int := if checkOf s = 0 ∧ s.tasks.length ≠ 0 then maxOf (tailsOf s.tasks) else 0
def critPath (s : Shop) : List Int := if checkOf s = 0 ∧ s.tasks.length ≠ 0 then extendGo s.tasks (tailsOf s.tasks) 100000000 (-1) (maxOf (tailsOf s.tasks)) [] else []

theorem Kd.Own.lower {α : Type} {d : Kd α} {e : TypeId} {w : World} {base base' : Nat} {F : Nat → Prop} {v : Value} {xs : List α} (h : d.Own e w base F v xs) (hb : base' ≤ base) : d.Own e w base' F v xs := by
  obtain ⟨cs, ⟨h0, h1⟩, h2, h3⟩ := h
  refine ⟨cs, ⟨h0, ?_⟩, h2, h3⟩
  rcases h1 with h1 | ⟨g, cap, cur, e1, e2, e3⟩
  · exact .inl h1
  · exact .inr ⟨g, cap, cur, e1, Nat.le_trans hb e2, e3⟩

/-- A length, a path, an error code. -/
def RetC (n : Int) (R : List Int) (c : Int) (w : World) (e : Ending) (w' : World) : Prop := ∃ v, e = .returned (.tuple #[.int .i64 n, v, .int .i64 c]) ∧ Kd.int.Sl w' (fun b => w.heap.size ≤ b) R v ∧ Below w.heap.size w w'
end Go.Proofs.Ythigebbihclbiaa
