/- task.tools: which stations have each tool: a map of slices. -/
import Derived.Test.YthigebbihclbiaaOrder
import Derived.Maps.OwnRows
import Derived.Maps.GroupsBeside
import Derived.Maps.Views
import Derived.Deep.DeepMust
namespace Go.Proofs.Ythigebbihclbiaa
open Go.RowKit Go.Maps
open Go.ChangeShapes (lits)

/-- Block b is a map that gives g key for each key; its rows lie from 'base' on. -/
def MapIs (w : World) (base b n : Nat) (g : ByteArray → List Int) : Prop :=
  ∃ D : DataW Unit, w.ownsGroups Try.prog 9 base 3 .i64 b n D ∧ IsMap D ∧ ∀ key : ByteArray, D.atKey (.string key.data.toList) .nil = if g key = [] then .nil else .slice (lits .i64 (g key)) []

def isNilD : DataW Unit → Bool
  | .nil => true
  | _ => false
theorem str_law : Keyed Try.prog 9 := string_keyed Try.underlying9
theorem lits_inj {xs ys : List Int} (h : lits (H := Unit) .i64 xs = lits .i64 ys) : xs = ys := by
  unfold lits at h
  exact (List.map_inj_right (fun a b hab => by cases hab; rfl)).1 h
theorem MapIs.below {w w' : World} {base b n : Nat} {g : ByteArray → List Int} (h : MapIs w base b n g) (hb : Below w.heap.size w w') : MapIs w' base b n g := by
  obtain ⟨D, h1, h2, h3⟩ := h
  exact ⟨D, h1.kept (Kd.grownBy_of_below hb none) (by simp) (fun _ _ _ x _ => by cases x.val.ownBlock <;> simp), h2, h3⟩
theorem MapIs.empty (w : World) : MapIs (w.alloc (.map #[] 0)) (w.heap.size + 1) w.heap.size 0 (fun _ => []) :=
  ⟨.map [], World.ownsGroups_made w _ _ _ _, isMap_empty, fun key => rfl⟩

theorem own_ne_box {α : Type} {d : Kd α} {e t : TypeId} {w : World} {base : Nat} {F : Nat → Prop} {v : Value} {xs : List α} {cs : Array Value} (h : d.Own e (w.alloc (.cells cs t)) base F v xs) (hne : e ≠ t) : v.ownBlock ≠ some w.heap.size := by
  obtain ⟨_, ⟨_, h1⟩, _⟩ := h
  rcases h1 with ⟨rfl, _⟩ | ⟨g, cap, cur, rfl, _, hh, _⟩
  · simp [Value.ownBlock]
  · intro he
    have : g = w.heap.size := by simpa [Value.ownBlock] using he
    subst this
    rw [heap_alloc_new] at hh
    injection hh with hh
    injection hh with _ ht
    exact hne ht.symm

section
variable {ops : Array Oper} {rest : List Oper} {o : Oper} {a : Act} {Q : Exit → Act → World → Prop}
/-- m[key], to be followed by an append to what it gives and a store of that. -/
theorem map_look (w : World) (hg : o.guard = none) (m x : Operand) (t : TypeId) (hop : o.op = Op.lookup t m x false) (ht : Try.prog.underlying t = some (.map 9 31))
    (base b n : Nat) (g : ByteArray → List Int) (hm : a.eval m = .map (some b)) (hown : MapIs w base b n g) (hn : n < 1000000) (key : ByteArray) (hx : a.eval x = .string key) (hk : key.size ≤ 9223372036854775807)
    (hK : ∀ v, Kd.int.Own 3 w base Kd.NoB v (g key) → (g key).length ≤ n → (∀ (w1 : World) (v' : Value) (i : Int), w.grownBy w1 v.ownBlock → Kd.int.Own 3 w1 base Kd.NoB v' (g key ++ [i]) → (0 ≤ i ∧ i < 1000000) → (v'.ownBlock = v.ownBlock ∨ ∃ c, v'.ownBlock = some c ∧ w.heap.size ≤ c) →
        ∃ w2, (Instr.mapUpdate t (.map (some b)) (.string key) v').run Try.prog w1 = .ok () w2 ∧ MapIs w2 base b (n + 1) (fun q => if q = key then g key ++ [i] else g q) ∧ w1.grownBy w2 (some b)) → wpList Try.prog ops Q rest (a.put o.dst v) w) :
    wpList Try.prog ops Q (o :: rest) a w := by
  obtain ⟨D, h1, h2, h3⟩ := hown
  have hkey : keyOf Try.prog 9 (.string key) = some (.string key.data.toList) := WideMaps.keyOf_string_mk Try.underlying9 (by simpa [maxLen] using hk)
  refine wpList_lookup_groups w hg m x t hop 9 31 3 .i64 str_law ht (by kernel_rfl) base b n D hm h1 (by simp only [maxLen]; omega) _ _ hx hkey ?_
  intro v zs hat hoi hzl hback
  have hz : zs = g key := by
    rw [h3 key] at hat
    by_cases hg0 : g key = []
    · rw [if_pos hg0] at hat
      rw [hg0]
      rcases hoi.datum (H := Unit) with ⟨e, e0⟩ | e
      · exact e0
      · rw [e] at hat
        exact absurd (congrArg isNilD hat) (by simp [isNilD])
    · rw [if_neg hg0] at hat
      rcases hoi.datum (H := Unit) with ⟨e, e0⟩ | e
      · rw [e] at hat
        exact absurd (congrArg isNilD hat) (by simp [isNilD])
      · rw [e] at hat
        exact (lits_inj (DataW.slice.inj hat).1).symm
  subst hz
  refine hK v ⟨_, by simpa [Kd.int, Kd.scal] using hoi.1, Kd.Cs.scal_iff.2 ⟨rfl, fun _ _ => trivial⟩, fun _ hb => hb.elim⟩ hzl ?_
  intro w1 v' i hgr ho hi hloc
  obtain ⟨cs, ho1, ho2, _⟩ := ho
  obtain ⟨rfl, _⟩ := Kd.Cs.scal_iff.1 ho2
  have ho3 : w1.ownsInts base 3 .i64 v' (g key ++ [i]) := by
    refine ⟨by simpa [Kd.int, Kd.scal] using ho1, fun z hz => ?_⟩
    rcases List.mem_append.1 hz with hz | hz
    · exact hoi.2 z hz
    · simp at hz
      subst hz
      exact WalkArith.wf_i64 (by omega)
  obtain ⟨w2, r1, r2, r3⟩ := hback w1 v' _ hgr ho3 (by rw [List.length_append]; simpa using hzl) hloc
  rw [ho3.datum_pos (by simp)] at r2
  refine ⟨w2, r1, ⟨_, r2, h2.put _ _, fun q => ?_⟩, r3⟩
  by_cases hq : q = key
  · subst hq
    rw [atKey_put_same (k := .string q.data.toList) h2 trivial]
    simp
  · rw [atKey_put_other (fun e => hq (WideShapes.bytes_inj (by injection e)))]
    simp only [hq, if_false]
    exact h3 q
/-- m[key] = v. -/
theorem map_store (w w2 : World) (hg : o.guard = none) (m x v : Operand) (t : TypeId) (hop : o.op = Op.mapUpdate t m x v) (mv kv vv : Value) (hm : a.eval m = mv) (hx : a.eval x = kv) (hv : a.eval v = vv)
    (hr : (Instr.mapUpdate t mv kv vv).run Try.prog w = .ok () w2) (hK : wpList Try.prog ops Q rest (a.put o.dst undef) w2) : wpList Try.prog ops Q (o :: rest) a w := by
  refine wpList_plain hg fun K' hK' => ?_
  unfold Oper.wp
  simp [execOp, hop, hm, hx, hv, hr, Result.andThen]
  exact hK' _ _ hK
end
end Go.Proofs.Ythigebbihclbiaa

/- The walk of task.tools. -/
namespace Go.Proofs.Ythigebbihclbiaa
open Go.RowKit

/-- What station i adds for a key. -/
def stPart (x : Station) (i : Nat) (key : ByteArray) : List Int := (if key = ⟨#[]⟩ then [(i : Int)] else []) ++ (x.tools.filter (fun t => decide (key = t))).map (fun _ => (i : Int))
def toolsUpto (ss : List Station) : Nat → ByteArray → List Int
  | 0, _ => []
  | k + 1, key => toolsUpto ss k key ++ (match ss[k]? with | some x => stPart x k key | none => [])
/-- The stations that have each tool. -/
def toolsOf (ss : List Station) (key : ByteArray) : List Int := toolsUpto ss ss.length key
def innerPart (g : ByteArray → List Int) (i : Nat) (l : List ByteArray) (key : ByteArray) : List Int := g key ++ (l.filter (fun t => decide (key = t))).map (fun _ => (i : Int))

/-- A map as tools returns it. -/
def RetMap (g : ByteArray → List Int) (w : World) (e : Ending) (w' : World) : Prop := ∃ b n base, e = .returned (.map (some b)) ∧ MapIs w' base b n g ∧ n < 10000 ∧ w.heap.size ≤ b ∧ w.heap.size ≤ base ∧ Below w.heap.size w w'
def ToolsOk (ss : List Station) : Prop := ss.length ≤ 8 ∧ ∀ x ∈ ss, x.tools.length ≤ 16

theorem MapIs.congr {w : World} {base b n : Nat} {g g' : ByteArray → List Int} (h : MapIs w base b n g) (e : ∀ q, g q = g' q) : MapIs w base b n g' := by
  rw [show g' = g from funext fun q => (e q).symm]; exact h

set_option maxRecDepth 100000 in
set_option maxHeartbeats 1000000 in
theorem tools_calls (s : Shop) (F : Nat → Prop) (v : Value) (w : World) (h : ShopAt w F s v) (hok : ToolsOk s.stations) :
    Calls Try.prog 53 #[v] w (RetMap (toolsOf s.stations) w) := by
  obtain ⟨v1, v2, rfl, h1, h2⟩ := h
  clear h1
  obtain ⟨A, c, rfl, hc1, hc2, hr⟩ := h2
  generalize s.stations = ss at *
  obtain ⟨ho1, ho2⟩ := hok
  have HOK := Lib.hid ho2
  clear ho2
  have hmm := @run_makeMap Try.prog
  go_enter Try.func53, Try.ntmps53
  go_wp2_with fail
  clear hmm
  go_loopw [4, 5, 12] (fun _ _ i12 wr => ∃ k n : Nat, k ≤ ss.length ∧ n ≤ 17 * k ∧ i12 = .int .i64 k ∧ Below w.heap.size w wr ∧ w.heap.size + 1 < wr.heap.size ∧ MapIs wr (w.heap.size + 2) (w.heap.size + 1) n (toolsUpto ss k)) (fun _ _ i12 _ => ss.length - (intOf i12).toNat)
  case atStart => exact ⟨0, 0, Nat.zero_le _, Nat.zero_le _, rfl, below_two _ _ _, by simp, by
    have h := MapIs.empty (w.alloc (.cells #[v1, .slice A ss.length c] 25))
    rw [show (w.alloc (.cells #[v1, .slice A ss.length c] 25)).heap.size = w.heap.size + 1 by simp] at h
    exact h⟩
  case round =>
    obtain ⟨k, n, hk, hn, rfl, hb, hz, HM⟩ := hrel
    have hM := Lib.hid HM
    clear HM
    by_cases hlt : k < ss.length
    · obtain ⟨b, o, A1, a1, rfl, _, hl1, c0', c1', hK⟩ := station_at hr k hlt
      have c0 := (hb.cell (p := ⟨b, o + k * 2, none⟩) hl1).trans c0'
      have c1 := (hb.cell (p := ⟨b, o + k * 2 + 1, none⟩) hl1).trans c1'
      have hl2 : b < wr.heap.size := by have := hb.size; omega
      have hT := Kd.K_tools hK
      have hTl := HOK.out ss[k] (List.getElem_mem _)
      have HSt := Lib.hid (show ∀ q, toolsUpto ss (k+1) q = toolsUpto ss k q ++ stPart ss[k] k q from fun q => by simp [toolsUpto, hlt])
      clear c0' c1' hK
      obtain ⟨At, at_, he, ht1, ht2, hrt⟩ := hT
      obtain ⟨rfl, _, rfl⟩ := Value.slice.inj he
      clear he
      generalize hx : ss[k] = x at *
      clear hx
      have hlt' : (k : Int) < (ss.length : Int) := by omega
      go_wp2_with (first
        | (at_lookup; refine map_look _ rfl (.tmp 18) (.const (.string ⟨#[]⟩)) 83 rfl Try.underlying83 (w.heap.size + 2) (w.heap.size + 1) n (toolsUpto ss k) rfl (hM.out.below (below_one _ _)) (by omega) ⟨#[]⟩ rfl (by decide) ?_; intro v ho hzl hback; have HB := Lib.hid hback; clear hback)
        | (at_builtin; refine Kd.app_at Kd.int (w.heap.size + 2) Kd.NoB rfl (.tmp 19) (.tmp 21) 31 3 (.int .i64 0) 8 rfl Try.underlying31 int_info rfl (by decide) (by omega) v (toolsUpto ss k ⟨#[]⟩) (k : Int) #[.int .i64 k] rfl _ (by simp) rfl ⟨rfl, trivial⟩ ho (by first | (simp; done) | (simp; omega) | omega) (fun b hb => hb.elim) (by omega) ?_; intro v1 w1 ho1 hg1 hat1; obtain ⟨w2, hr2, hM2, hg2⟩ := HB.out w1 v1 k hg1 ho1 ⟨by omega, by omega⟩ hat1; clear HB; have kx : w2.cell? ⟨wr.heap.size, 1, none⟩ = some (.slice A1 x.tools.length a1) := hg2.cell (hg1.cell (by go_simp) (fun e => own_ne_box ho (by decide) e.symm)) (by first | (simp; done) | (simp; omega) | omega); have hbb : Below w.heap.size w w2 := ((hb.alloc hb.size _).grown hg1 (by first | (simp; done) | (simp; omega) | omega) (fun j hj => by have := (ho.lt j hj).1; omega)).grown hg2 (by have z1 := hg1.size; have z2 := hb.size; simp at z1; omega) (fun j hj => by have e := Option.some.inj hj; omega); have hzz : w.heap.size + 1 < w2.heap.size := (by have z1 := hg1.size; have z2 := hg2.size; simp at z1; omega); clear ho hzl ho1 hg1 hat1 hg2 hb c0 c1 hl2))
      clear hr2
      have HM2 := Lib.hid hM2
      clear hM2 hM
      go_loopw [7, 26] (fun _ i26 wy => ∃ j m : Nat, j ≤ x.tools.length ∧ m ≤ n + 1 + j ∧ i26 = .int .i64 j ∧ Below w.heap.size w wy ∧ w.heap.size + 1 < wy.heap.size ∧
        MapIs wy (w.heap.size + 2) (w.heap.size + 1) m (innerPart (fun q => if q = ⟨#[]⟩ then toolsUpto ss k ⟨#[]⟩ ++ [(k : Int)] else toolsUpto ss k q) k (x.tools.take j))) (fun _ i26 _ => x.tools.length - (intOf i26).toNat)
      case atStart => exact ⟨0, n + 1, Nat.zero_le _, by omega, rfl, hbb, hzz, HM2.out.congr fun q => by simp [innerPart]⟩
      case round =>
        obtain ⟨j, m, hj, hm, rfl, hb2, hz2, HM3⟩ := hrel
        have hM3 := Lib.hid HM3
        clear HM3 hbb hzz kx
        obtain ⟨wy, rfl⟩ : ∃ wy : World, wy = wr := ⟨_, rfl⟩
        by_cases hlt2 : j < x.tools.length
        · obtain ⟨bt, ot, rfl, _, hl3, d0', hts⟩ := str_at hrt j hlt2
          have d0 := (hb2.cell (p := ⟨bt, ot + j, none⟩) hl3).trans d0'
          have hl4 : bt < wy.heap.size := by have := hb2.size; omega
          have hj' : (j : Int) < (x.tools.length : Int) := by omega
          have HG := Lib.hid (show ∀ (g : ByteArray → List Int) (q : ByteArray), innerPart g k (x.tools.take (j+1)) q = if q = x.tools[j] then innerPart g k (x.tools.take j) x.tools[j] ++ [(k : Int)] else innerPart g k (x.tools.take j) q from fun g q => by
            by_cases hq : q = x.tools[j]
            · rw [if_pos hq, hq, innerPart, innerPart, List.take_succ_eq_append_getElem hlt2, List.filter_append, List.map_append, List.append_assoc]
              congr 2
              simp [List.filter]
            · rw [if_neg hq, innerPart, innerPart, List.take_succ_eq_append_getElem hlt2, List.filter_append, List.map_append]
              congr 1
              simp [List.filter, hq])
          clear d0'
          generalize x.tools[j] = tt at *
          generalize hgg : (fun q => if q = (⟨#[]⟩ : ByteArray) then toolsUpto ss k ⟨#[]⟩ ++ [(k : Int)] else toolsUpto ss k q) = gg at *
          have hGen : ∀ gg' : ByteArray → List Int, gg' = innerPart gg k (x.tools.take j) → MapIs wy (w.heap.size + 2) (w.heap.size + 1) m gg' := fun gg' e => by rw [e]; exact hM3.out
          have hM4 := Lib.hid (hGen _ rfl)
          clear hGen hM3 hgg
          go_wp2_with (first
            | (at_lookup; refine map_look _ rfl (.tmp 32) (.tmp 33) 83 rfl Try.underlying83 (w.heap.size + 2) (w.heap.size + 1) m (innerPart gg k (x.tools.take j)) rfl hM4.out (by omega) tt rfl hts ?_; intro v ho hzl hback; have HB := Lib.hid hback; clear hback)
            | (at_builtin; refine Kd.app_at Kd.int (w.heap.size + 2) Kd.NoB rfl (.tmp 34) (.tmp 36) 31 3 (.int .i64 0) 8 rfl Try.underlying31 int_info rfl (by decide) (by omega) v (innerPart gg k (x.tools.take j) tt) (k : Int) #[.int .i64 k] rfl _ rfl rfl ⟨rfl, trivial⟩ ho (by omega) (fun b hb => hb.elim) (by omega) ?_; intro v1 w1 ho1 hg1 hat1; obtain ⟨w2, hr2, hM2, hg2⟩ := HB.out w1 v1 k hg1 ho1 ⟨by omega, by omega⟩ hat1; clear HB; have hbb : Below w.heap.size w w2 := (hb2.grown hg1 (by omega) (fun j hj => by have := (ho.lt j hj).1; omega)).grown hg2 (by have z1 := hg1.size; omega) (fun j hj => by have e := Option.some.inj hj; omega); have hzz : w.heap.size + 1 < w2.heap.size := (by have z1 := hg1.size; have z2 := hg2.size; omega); clear ho hzl ho1 hg1 hat1 hg2 hb2 d0 hl4))
          clear hr2
          go_roundw
          case rel => exact ⟨j+1, m+1, by omega, by omega, by go_num, hbb, hzz, hM2.congr fun q => by rw [HG.out]⟩
          case measure => simp [intOf]; omega
        · go_wp2_with fail
          go_roundw
          case rel =>
            refine ⟨k+1, m, by omega, by omega, by go_num, hb2, hz2, hM3.out.congr fun q => ?_⟩
            rw [HSt.out, List.take_of_length_le (by omega), innerPart, stPart]
            by_cases hq : q = ⟨#[]⟩ <;> simp [hq]
          case measure => simp [intOf]; omega
    · have hkk : k = ss.length := by omega
      have HK := Lib.hid hkk
      clear hkk
      go_wp2_with fail
      go_ret
      exact ⟨w.heap.size + 1, n, w.heap.size + 2, rfl, hM.out.congr fun q => by rw [toolsOf, ← HK.out], by omega, by omega, by omega, hb⟩
end Go.Proofs.Ythigebbihclbiaa
