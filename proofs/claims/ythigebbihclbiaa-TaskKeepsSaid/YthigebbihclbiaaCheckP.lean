/- What task.Check returns, in plain Lean; what a valid shop satisfies. -/
import Derived.Test.YthigebbihclbiaaTaskErr
import Derived.Test.YthigebbihclbiaaStation
import Derived.Test.YthigebbihclbiaaOrder
import Derived.Test.YthigebbihclbiaaToolsW
namespace Go.Proofs.Ythigebbihclbiaa

def errFrom (f : Nat → Int) : Nat → Nat → Int
  | 0, _ => 0
  | c + 1, k => if f k = 0 then errFrom f c (k + 1) else f k
theorem errFrom_zero (f : Nat → Int) : ∀ (c k : Nat), errFrom f c k = 0 → ∀ j, k ≤ j → j < k + c → f j = 0
  | 0, k, _, j, h1, h2 => by omega
  | c + 1, k, h, j, h1, h2 => by
    rw [errFrom] at h
    by_cases hk : f k = 0
    · rw [if_pos hk] at h
      by_cases e : j = k
      · rw [e]; exact hk
      · exact errFrom_zero f c (k + 1) h j (by omega) (by omega)
    · rw [if_neg hk] at h; exact absurd h hk
theorem errFrom_of (f : Nat → Int) : ∀ (c k : Nat), (∀ j, k ≤ j → j < k + c → f j = 0) → errFrom f c k = 0
  | 0, _, _ => rfl
  | c + 1, k, h => by
    rw [errFrom, if_pos (h k (by omega) (by omega))]
    exact errFrom_of f c (k + 1) fun j h1 h2 => h j (by omega) (by omega)
theorem errFrom_step (f : Nat → Int) (n k : Nat) (hk : k < n) : errFrom f (n - k) k = if f k = 0 then errFrom f (n - (k + 1)) (k + 1) else f k := by
  rw [show n - k = (n - (k + 1)) + 1 by omega, errFrom]

def check3 (s : Shop) : Int := if s.tasks.any (fun t => (toolsOf s.stations t.tool).isEmpty) = true then 10 else 0
def check2 (s : Shop) : Int := if errFrom (stationErr s.stations) s.stations.length 0 = 0 then check3 s else errFrom (stationErr s.stations) s.stations.length 0
def check1 (s : Shop) : Int := if (orderOf s.tasks).length < s.tasks.length then 30 else check2 s
def check0 (s : Shop) : Int := if errFrom (taskErr s.tasks) s.tasks.length 0 = 0 then check1 s else errFrom (taskErr s.tasks) s.tasks.length 0
/-- The first error of a shop. -/
def checkOf (s : Shop) : Int := if 24 < s.tasks.length ∨ 8 < s.stations.length then 6 else check0 s

theorem afterErr_range (n i : Int) : ∀ (p : Option Int) (l : List Int), afterErr n i p l = 0 → ∀ x ∈ l, 0 ≤ x ∧ x < n
  | _, [], _, x, hx => by cases hx
  | p, y :: l, h, x, hx => by
    rw [afterErr] at h
    by_cases h1 : y < 0 ∨ n ≤ y
    · rw [if_pos h1] at h; omega
    · rw [if_neg h1] at h
      by_cases h2 : y = i
      · rw [if_pos h2] at h; omega
      · rw [if_neg h2] at h
        by_cases h3 : p.any (fun q => decide (y ≤ q)) = true
        · rw [if_pos h3] at h; omega
        · rw [if_neg h3] at h
          rcases List.mem_cons.1 hx with rfl | hx
          · omega
          · exact afterErr_range n i _ l h x hx
theorem taskErr_after (ts : List Task) (i : Nat) (hi : i < ts.length) (h : taskErr ts i = 0) : afterErr ts.length i none ts[i].after = 0 ∧ 1 ≤ ts[i].dur ∧ ts[i].dur ≤ 1048576 ∧ nameOk ts[i].name = true ∧ (isEmpty ts[i].tool = true ∨ nameOk ts[i].tool = true) ∧ (ts.take i).any (fun x => seq x.name ts[i].name) = false := by
  rw [taskErr, List.getElem?_eq_getElem hi] at h
  simp only [taskErr1] at h
  split at h
  · omega
  · split at h
    · omega
    · split at h
      · omega
      · split at h
        · omega
        · rename_i h1 h2 h3 h4
          refine ⟨h, by omega, by omega, by simpa using h1, ?_, by simpa using h2⟩
          cases e : isEmpty ts[i].tool with
          | true => exact .inl rfl
          | false =>
            right
            cases e2 : nameOk ts[i].tool with
            | true => rfl
            | false => exact absurd ⟨e, e2⟩ h4
theorem afterOk_of (ts : List Task) (h : errFrom (taskErr ts) ts.length 0 = 0) : AfterOk ts := by
  intro t ht x hx
  obtain ⟨i, hi, rfl⟩ := List.getElem_of_mem ht
  exact afterErr_range _ _ _ _ (taskErr_after ts i hi (errFrom_zero _ _ _ h i (by omega) (by omega))).1 x hx
theorem stationErr_tools (ss : List Station) (i : Nat) (hi : i < ss.length) (h : stationErr ss i = 0) : toolsErr none ss[i].tools = 0 ∧ ss[i].tools.length ≤ 16 ∧ nameOk ss[i].name = true := by
  rw [stationErr, List.getElem?_eq_getElem hi] at h
  simp only [stationErr1] at h
  split at h
  · omega
  · split at h
    · omega
    · split at h
      · omega
      · rename_i h1 h2 h3
        exact ⟨h, by omega, by simpa using h1⟩
theorem toolsOk_of (ss : List Station) (hl : ss.length ≤ 8) (h : errFrom (stationErr ss) ss.length 0 = 0) : ToolsOk ss := by
  refine ⟨hl, fun x hx => ?_⟩
  obtain ⟨i, hi, rfl⟩ := List.getElem_of_mem hx
  exact (stationErr_tools ss i hi (errFrom_zero _ _ _ h i (by omega) (by omega))).2.1
end Go.Proofs.Ythigebbihclbiaa
