/- The laws' frame: how the arguments are read, and how a row is shut. -/
import Derived.Test.YthigebbihclbiaaFew
import Derived.Test.YthigebbihclbiaaChecked
import Derived.ProofKit
import Derived.ReadAgain
import Derived.ChangeSame
import Derived.Deep.Slices
import Derived.Lib.SmallJoins
import Derived.Below
namespace Go.Proofs.Ythigebbihclbiaa
open Go.RowKit Go.WideShapes Go.ChangeShapes Go.Deep Go.ChangeAt
set_option maxRecDepth 100000

theorem Try.own : ownKnob Try.prog.godebug = none := by kernel_rfl
theorem Try.kids : Kids Try.prog (· < Try.prog.types.size) := kids_rows (by kernel_rfl) (by kernel_rfl)
theorem Try.full : ∀ t e, t < Try.prog.types.size → Try.prog.underlying t = some (.slice e) → 0 < Try.prog.cellsOf e := slices_full_of Try.prog (by kernel_rfl)

section
variable {H : Type} {enc : TypeId × Value → H}
/-- What is read at type t is of kind d. -/
def Reads {α : Type} (enc : TypeId × Value → H) (W : World) (t : TypeId) (d : Kd α) : Prop :=
  ∀ n cs x, DataW.trod enc Try.prog W 0 (fun _ => true) true n t cs = some x → ∃ y, d.K W (fun _ => True) y cs
theorem list_of {α : Type} {P : Nat → α → Prop} : ∀ n : Nat, (∀ i, i < n → ∃ x, P i x) → ∃ xs : List α, xs.length = n ∧ ∀ i (h : i < xs.length), P i xs[i]
  | 0, _ => ⟨[], rfl, fun i h => absurd h (Nat.not_lt_zero _)⟩
  | n + 1, h => by
    obtain ⟨xs, hl, hx⟩ := list_of n fun i hi => h i (by omega)
    obtain ⟨y, hy⟩ := h n (by omega)
    refine ⟨xs ++ [y], by simp [hl], fun i hi => ?_⟩
    by_cases hin : i < xs.length
    · rw [List.getElem_append_left hin]; exact hx i hin
    · have : i = n := by simp at hi; omega
      subst this
      rw [List.getElem_append_right (by omega)]
      simpa using hy
theorem reads_slice {α : Type} {d : Kd α} {W : World} {t e : TypeId} (hz : 0 < d.sz) (ht : Try.prog.underlying t = some (.slice e)) (hc : Try.prog.cellsOf e = d.sz) (h : Reads enc W e d) : Reads enc W t (Kd.slice d hz) := by
  intro n cs x hx
  rcases open_slice ht hx with ⟨rfl, _⟩ | ⟨a, len, cap, m, n', D, Pl, rfl, _, hl, hm, hmm, _, hel⟩
  · exact ⟨[], _, rfl, Kd.Sl.nil _ _ _⟩
  · simp only [if_true] at hmm
    subst hmm
    obtain ⟨xs, hxl, hxs⟩ := list_of (P := fun i y => ∃ cs', W.cells? 0 (a.add (i * d.sz)) d.sz = some cs' ∧ d.K W (fun _ => True) y cs') len fun i hi => by
      obtain ⟨cs', h1, h2⟩ := hel i (by omega)
      obtain ⟨y, hy⟩ := h _ _ _ h2
      exact ⟨y, cs', by rw [hc] at h1; exact h1, hy⟩
    subst hxl
    refine ⟨xs, _, rfl, some a, _, rfl, hl, by simpa [maxLen] using hm, fun i hi => ?_⟩
    obtain ⟨cs', h1, hK⟩ := hxs i hi
    obtain ⟨_, hcl, hcell⟩ := World.cells?_some h1
    have hsp : a.spot = none := by
      obtain ⟨cs0, g1, _⟩ := hxs 0 (by omega)
      obtain ⟨_, hcl0, hcell0⟩ := World.cells?_some g1
      have h0 := hcell0 0 hz
      rw [List.getElem?_eq_getElem (by omega)] at h0
      have := World.cell?_spot h0
      rw [add_add] at this
      simpa [Addr.add] using this
    obtain ⟨b, o, sp⟩ := a
    simp only at hsp
    subst hsp
    refine ⟨b, o, cs', rfl, trivial, hK, fun j v hj => ?_⟩
    have hjl := (List.getElem?_eq_some_iff.1 hj).1
    have := hcell j (by omega)
    rw [add_add, hj] at this
    rw [← this]
    congr 1
    unfold Addr.add
    split <;> simp_all
theorem reads_int {W : World} : Reads enc W 3 Kd.int := by
  intro n cs x hx
  obtain ⟨z, rfl, _, _⟩ := DataW.trod_int Try.underlying3 hx
  exact ⟨z, rfl, trivial⟩
theorem reads_string {W : World} : Reads enc W 9 Kd.string := by
  intro n cs x hx
  obtain ⟨z, rfl, _, hz⟩ := DataW.trod_string Try.underlying9 hx
  exact ⟨z, rfl, by simpa [maxLen] using hz⟩
theorem reads_ints {W : World} : Reads enc W 31 Kd.ints := reads_slice (d := Kd.int) Nat.one_pos Try.underlying31 (by kernel_rfl) reads_int
theorem reads_strs {W : World} : Reads enc W 57 Kd.strs := reads_slice (d := Kd.string) Nat.one_pos Try.underlying57 (by kernel_rfl) reads_string
theorem cells_string : Try.prog.cellsOf 9 = 1 := by kernel_rfl
theorem cells_int : Try.prog.cellsOf 3 = 1 := by kernel_rfl
theorem cells_ints : Try.prog.cellsOf 31 = 1 := by kernel_rfl
theorem cells_strs : Try.prog.cellsOf 57 = 1 := by kernel_rfl
theorem cells_task : Try.prog.cellsOf 42 = 4 := by kernel_rfl
theorem cells_station : Try.prog.cellsOf 59 = 2 := by kernel_rfl
theorem cells_shop : Try.prog.cellsOf 25 = 2 := by kernel_rfl
theorem cells_tasks : Try.prog.cellsOf 22 = 1 := by kernel_rfl
theorem cells_stations : Try.prog.cellsOf 23 = 1 := by kernel_rfl
theorem reads_task {W : World} : Reads enc W 42 Kd.task := by
  intro n cs x hx
  obtain ⟨y0, y1, y2, y3, m, _, hl, h0, h1, h2, h3⟩ := Joins.trod_struct4 Try.underlying42 hx
  rw [cells_task] at hl
  match cs, hl with
  | [a, b, c, e], _ =>
    simp only [cells_string, cells_int, cells_ints, List.drop, List.take] at h0 h1 h2 h3
    obtain ⟨z0, e0, k0⟩ := reads_string _ _ _ h0
    obtain ⟨z1, e1, _⟩ := reads_int _ _ _ h1
    obtain ⟨z2, e2, k2⟩ := reads_string _ _ _ h2
    obtain ⟨z3, v, e3, k3⟩ := reads_ints _ _ _ h3
    cases e0; cases e1; cases e2; cases e3
    exact ⟨⟨z0, z1, z2, z3⟩, Kd.K_task.2 ⟨_, rfl, k0, k2, k3⟩⟩
theorem reads_station {W : World} : Reads enc W 59 Kd.station := by
  intro n cs x hx
  obtain ⟨y0, y1, m, _, hl, h0, h1⟩ := trod_struct2 Try.underlying59 hx
  rw [cells_station] at hl
  match cs, hl with
  | [a, b], _ =>
    simp only [cells_string, cells_strs, List.drop, List.take] at h0 h1
    obtain ⟨z0, e0, k0⟩ := reads_string _ _ _ h0
    obtain ⟨z3, v, e3, k3⟩ := reads_strs _ _ _ h1
    cases e0; cases e3
    exact ⟨⟨z0, z3⟩, Kd.K_station.2 ⟨_, rfl, k0, k3⟩⟩
/-- A shop handed over. -/
theorem shop_of {W : World} {base : Nat} {v : Value} {d : DataW H} {p : List MemPlace} (hv : Value.okWide Try.prog W .any base 25 v) (h : DataW.Trod enc Try.prog W 0 (fun _ => true) true 25 v d p) : ∃ s, ShopAt W (fun _ => True) s v := by
  obtain ⟨cs, rfl, hsz⟩ := okWide_struct Try.underlying25 hv
  obtain ⟨n, hn⟩ := h
  obtain ⟨y0, y1, m, _, hl, h0, h1⟩ := trod_struct2 Try.underlying25 hn
  rw [cells_shop] at hsz
  obtain ⟨l⟩ := cs
  match l, hsz with
  | [a, b], _ =>
    simp only [Value.cells, cells_tasks, cells_stations, List.drop, List.take] at h0 h1
    obtain ⟨ts, v0, e0, k0⟩ := reads_slice (d := Kd.task) (by decide) Try.underlying22 cells_task reads_task _ _ _ h0
    obtain ⟨ss, v1, e1, k1⟩ := reads_slice (d := Kd.station) (by decide) Try.underlying23 cells_station reads_station _ _ _ h1
    cases e0; cases e1
    exact ⟨⟨ts, ss⟩, _, _, rfl, k0, k1⟩

/-! #### shut -/
theorem sameAt_below {B : Nat} {w w' : World} (h : Below B w w') (p : MemPlace) (hp : p.block < B) : w.sameAt w' p := by
  cases p with
  | cell b o => exact h.cell (p := ⟨b, o, none⟩) hp
  | map b => exact h.block b hp
theorem trodAll_carry {w w' : World} {base : Nat} {spare : Nat → Bool} {held : Bool} : ∀ {ts : List TypeId} {vs : List Value} {ds : List (DataW H)} {ps : List MemPlace}, DataW.TrodAll enc Try.prog w base spare held ts vs ds ps → (∀ p ∈ ps, w.sameAt w' p) → DataW.TrodAll enc Try.prog w' base spare held ts vs ds ps
  | [], [], [], _, h, _ => h
  | _ :: _, _ :: _, _ :: _, _, ⟨p, q, ⟨n, h1⟩, h2, e⟩, hs => ⟨p, q, ⟨n, DataW.trod_carry n _ _ _ h1 (fun x hx => hs x (by rw [e]; exact List.mem_append_left _ hx))⟩, trodAll_carry h2 (fun x hx => hs x (by rw [e]; exact List.mem_append_right _ hx)), e⟩
/-- A law's end: it gave true, and left all that was there as it was. -/
theorem law_post {f : Func} {s : ChangeSpec} {apart fresh handsOn again : Bool} {W W' : World} {args : Array Value} {ds gs : List (DataW H)} {before : List MemPlace}
    (hW : DataW.Whole enc Try.prog f.params.toList s.vars apart W args.toList ds gs before) (hvars : s.vars = []) (hr : f.resultTypes = #[4]) (hp : ∀ t ∈ f.params.toList, t < Try.prog.types.size)
    (hfn : s.fn H (ds ++ gs) = { results := [.lit (.bool true)], args := ds }) (hb : Below W.heap.size W W') :
    s.post enc Try.prog f apart fresh handsOn again W args (.bool true) W' := by
  have hlt : ∀ p ∈ before, p.block < W.heap.size := fun p hp => hW.lt p hp
  have hold : ∀ p ∈ before, (fun b => decide (b < W.heap.size)) p.block = true := fun p hp => by simpa using hlt p hp
  obtain ⟨pa, q, hA, hV, hq, hz, hn⟩ := id hW
  rw [hvars] at hV
  obtain ⟨rfl, rfl⟩ : gs = [] ∧ q = [] := by
    cases gs with
    | nil => exact ⟨rfl, hV⟩
    | cons g gs => exact hV.elim
  simp only [List.append_nil] at hq
  subst hq
  have hargs : ∀ sp : Nat → Bool, (∀ p ∈ before, sp p.block = true) → DataW.TrodAll enc Try.prog W' 0 sp true f.params.toList args.toList ds before := fun sp hsp =>
    trodAll_carry (DataW.TrodAll.respare Try.kids Try.full hp hA hsp) (fun p hp => sameAt_below hb p (hlt p hp))
  have hres : ∀ (b : Nat) (sp : Nat → Bool) (hd : Bool), DataW.TrodAll enc Try.prog W' b sp hd f.resultTypes.toList ((Value.bool true).resultList f.resultTypes.size) [.lit (.bool true)] [] := fun _ _ _ => by
    rw [hr]; exact trodAll_mk1 (shut_bool Try.underlying4 _)
  refine ⟨ds, [], before, [], before, [], hW, by rw [hfn]; exact hres _ _ _, by rw [hfn]; exact hargs _ hold, by rw [hfn, hvars]; rfl, World.keptBut_mono (fun p hp => ⟨hp, ?_⟩) (hb.frame (· ∈ before)), fun _ => ?_⟩
  · exact .inr (by simpa using hp)
  · refine ⟨ok_one (t := 4) (by rw [hr]) rfl (okWide_bool_mk Try.underlying4 _), _, _, ([] ++ before) ++ [], ⟨[] ++ before, [], trodAll_append (hargs _ (fun _ _ => rfl)) (hres _ _ _), (show DataW.TrodVars enc Try.prog W' (fun _ => true) s.vars [] [] by rw [hvars]; rfl), rfl, ?_, ?_⟩, ?_⟩
    · intro b off hp
      have hin : MemPlace.cell b off ∈ before := by simpa using hp
      rw [hb.frozen (hlt _ hin)]
      exact hz b off hin
    · intro ha
      simpa using hn ha
    · intro p hp _
      simpa using hp
end
end Go.Proofs.Ythigebbihclbiaa
