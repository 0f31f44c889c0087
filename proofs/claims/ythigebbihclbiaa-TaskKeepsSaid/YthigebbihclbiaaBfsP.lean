/- The law's before, in plain Lean; and: what the map of tools gives is what the law's able gives. -/
import Derived.Test.YthigebbihclbiaaReach
import Derived.Test.YthigebbihclbiaaBefPub
import Derived.Test.YthigebbihclbiaaLawCheck
import Derived.Laws.AppendOwnNone
namespace Go.Proofs.Ythigebbihclbiaa
open Go.RowKit

theorem nodup_len : ∀ (n : Nat) (l : List Int), l.Nodup → (∀ x ∈ l, 0 ≤ x ∧ x < (n : Int)) → l.length ≤ n
  | 0, [], _, _ => Nat.le_refl _
  | 0, x :: l, _, h => by have := h x (List.mem_cons_self ..); omega
  | n + 1, l, hn, h => by
    by_cases hm : (n : Int) ∈ l
    · have := nodup_len n (l.erase (n : Int)) (hn.erase _) (fun x hx => by
        obtain ⟨h1, h2⟩ := (hn.mem_erase_iff).1 hx
        have := h x h2
        omega)
      rw [List.length_erase_of_mem hm] at this
      omega
    · have := nodup_len n l hn (fun x hx => by
        have h1 := h x hx
        have h2 : x ≠ (n : Int) := fun e => hm (by rw [← e]; exact hx)
        omega)
      omega

/-- What is known of the list while its elements up to k have been looked at. -/
structure Bfs (ts : List Task) (f : Nat → Bool) (al : List Int) (k : Nat) (l : List Int) : Prop where
  nd : l.Nodup
  rng : ∀ x ∈ l, 0 ≤ x ∧ x < (ts.length : Int)
  base : ∀ x ∈ al, x ∈ l
  hk : k ≤ l.length
  clo : ∀ j (h : j < l.length), j < k → ∀ z ∈ afterOf ts l[j], z ∈ l
  snd : ∀ x ∈ l, f x.toNat = true
theorem Bfs.len {ts : List Task} {f : Nat → Bool} {al l : List Int} {k : Nat} (h : Bfs ts f al k l) : l.length ≤ ts.length := nodup_len _ _ h.nd h.rng
theorem Bfs.start {ts : List Task} {f : Nat → Bool} {i : Nat} (hok : AfterOk ts) (hup : AfterUp ts) (hi : i < ts.length) (hf : ∀ z ∈ afterOf ts (i : Int), f z.toNat = true) : Bfs ts f (afterOf ts (i : Int)) 0 (afterOf ts (i : Int)) :=
  ⟨by rw [afterOf_lt hi]; exact (hup _ (List.getElem_mem hi)).imp (fun h => Int.ne_of_lt h), fun x hx => after_range hok hx, fun _ h => h, Nat.zero_le _, fun j _ h => absurd h (Nat.not_lt_zero j), hf⟩
theorem Bfs.add {ts : List Task} {f : Nat → Bool} {al l : List Int} {k : Nat} (h : Bfs ts f al k l) (hok : AfterOk ts) {z : Int} {i : Nat} (hz : z ∈ afterOf ts (i : Int)) (hn : z ∉ l) (hf : f z.toNat = true) : Bfs ts f al k (l ++ [z]) := by
  refine ⟨?_, fun x hx => ?_, fun x hx => List.mem_append_left _ (h.base x hx), by have := h.hk; simp; omega, fun j hj hjk y hy => ?_, fun x hx => ?_⟩
  · rw [List.nodup_append]
    exact ⟨h.nd, by simp, fun a ha b hb e => hn (by have : b = z := by simpa using hb
                                                    rw [← this, ← e]; exact ha)⟩
  · rcases List.mem_append.1 hx with hx | hx
    · exact h.rng x hx
    · rw [List.mem_singleton.1 hx]; exact after_range hok hz
  · have hjl : j < l.length := by have := h.hk; omega
    rw [List.getElem_append_left hjl] at hy
    exact List.mem_append_left _ (h.clo j hjl hjk y hy)
  · rcases List.mem_append.1 hx with hx | hx
    · exact h.snd x hx
    · rw [List.mem_singleton.1 hx]; exact hf
theorem Bfs.next {ts : List Task} {f : Nat → Bool} {al l : List Int} {k : Nat} (h : Bfs ts f al k l) (hk : k < l.length) (hz : ∀ z ∈ afterOf ts l[k], z ∈ l) : Bfs ts f al (k + 1) l :=
  ⟨h.nd, h.rng, h.base, by omega, fun j hj hjk => by
    by_cases e : j = k
    · subst e; exact hz
    · exact h.clo j hj (by omega), h.snd⟩
/-- When all have been looked at, the list holds what comes before. -/
theorem Bfs.done {ts : List Task} {i : Nat} {l : List Int} (hok : AfterOk ts) (hl : (orderOf ts).length = ts.length) (hi : i < ts.length) (h : Bfs ts (befAt ts i) (afterOf ts (i : Int)) l.length l) (x : Nat) : l.contains (x : Int) = befAt ts i x := by
  rw [Bool.eq_iff_iff, List.contains_iff_mem]
  constructor
  · intro hx
    have := h.snd _ hx
    simpa using this
  · intro hx
    have cast : ∀ z : Int, z ∈ l → ((z.toNat : Nat) : Int) ∈ l := fun z hz => by
      have := (h.rng z hz).1
      rw [show ((z.toNat : Nat) : Int) = z by omega]; exact hz
    refine bef_least hok hl (fun y => (y : Int) ∈ l) (fun y _ hy z hz => ?_) i hi (fun z hz => cast z (h.base z hz)) x hx
    obtain ⟨j, hj, e⟩ := List.getElem_of_mem hy
    refine cast z (h.clo j hj hj z ?_)
    rw [e]; exact hz

theorem run_append_none {P : Program} {w : World} (base : Nat) (t ty e : TypeId) (i : TypeInfo) (size c : Nat) (ht : P.underlying t = some (.slice e)) (hi : P.info? e = some i)
    (v : Value) (n : Nat) (xs : List Value) (hown : w.ownsRow base e size v n xs) : (Builtin.append_ #[t, t] ty #[v, .slice none 0 c]).run P w = .ok v w := by
  rcases hown.2 with ⟨rfl, rfl⟩ | ⟨g, cap, cur, rfl, _, _, hnc, _⟩
  · simp [Builtin.append_, run_underlying ht, sizeOf, typeInfo, hi, Builtin.lenOf, Builtin.firstCells]
  · simp [Builtin.append_, run_underlying ht, sizeOf, typeInfo, hi, Builtin.lenOf, Builtin.firstCells, hnc, storeCells]
/-- append(v, u...) of ints. -/
theorem app_all {P : Program} {ops : Array Oper} {rest : List Oper} {o : Oper} {a : Act} {Q : Exit → Act → World → Prop} {W : World} (base : Nat) (hgd : o.guard = none) (s x : Operand) (t e : TypeId)
    (ho : o.op = .call { callee := .builtin .append, args := #[s, x], argTypes := #[t, t] }) (ht : P.underlying t = some (.slice e)) (hinfo : (P.info? e).map (fun i => (i.zero, i.size, i.bytes)) = some (some (.int .i64 0), 1, 8))
    (v u : Value) (xs ys : List Int) (G : Nat → Prop) (hs : a.eval s = v) (hx : a.eval x = u) (HY : Kd.int.Sl W G ys u) (HO : Kd.int.Own e W base Kd.NoB v xs) (hbase : base ≤ W.heap.size) (hl : (xs.length + ys.length) * 8 ≤ 140737488355328)
    (h : ∀ v1 w1, Kd.int.Own e w1 base Kd.NoB v1 (xs ++ ys) → W.grownBy w1 v.ownBlock → wpList P ops Q rest (a.put o.dst v1) w1) : wpList P ops Q (o :: rest) a W := by
  obtain ⟨A, c, rfl, hc1, hc2, hr⟩ := HY
  obtain ⟨i0, hi, hzz⟩ := Option.map_eq_some_iff.1 hinfo
  simp only [Prod.mk.injEq] at hzz
  obtain ⟨hz0, hz1, hz2⟩ := hzz
  obtain ⟨ds, h1, h2, h3⟩ := HO
  obtain ⟨hds, _⟩ := Kd.Cs.scal_iff.1 h2
  subst hds
  cases A with
  | none =>
    have hn : ys = [] := by
      cases ys with
      | nil => rfl
      | cons y ys => obtain ⟨_, _, _, e, _⟩ := hr 0 (by simp); cases e
    subst hn
    refine wpList_plain hgd fun K hK => ?_
    have hrun := run_append_none (P := P) (w := W) base t o.type e i0 1 c ht hi v xs.length _ (by simpa [Kd.int, Kd.scal] using h1)
    unfold Oper.wp
    simp [execOp, ho, resolve, invoke, builtin, hs, hx, hrun, Result.andThen]
    refine hK _ _ (h v W ⟨_, by simpa using h1, Kd.Cs.scal_iff.2 ⟨by simp, fun _ _ => trivial⟩, h3⟩ (World.grownBy.refl _ _))
  | some ad =>
    refine wpList_append_own_at W hgd s x t ho base e i0 (.int .i64 0) 1 8 ht hi hz0 hz1 hz2 rfl (by decide) v xs.length _ hs (by simpa [Kd.int, Kd.scal] using h1) ad ys.length c (ys.map (Value.int .i64)) hx (by simp) ?_ (by intro u hu; obtain ⟨y, _, rfl⟩ := List.mem_map.1 hu; rfl) (by simp only [maxLen]; omega) hl hbase ?_
    · intro j u hj
      have hjl : j < ys.length := by have := (List.getElem?_eq_some_iff.1 hj).1; simpa using this
      obtain ⟨b, oo, cs, e1, _, hK, hcell⟩ := hr j hjl
      obtain ⟨rfl, _⟩ := hK
      cases e1
      have h4 := hcell 0 _ rfl
      simp only [List.getElem?_map, List.getElem?_eq_getElem hjl, Option.map_some, Option.some.injEq] at hj
      subst hj
      have ha : (⟨b, oo, none⟩ : Addr).add j = ⟨b, oo + j, none⟩ := by unfold Addr.add; split <;> simp_all
      rw [ha]
      simpa [Kd.int, Kd.scal] using h4
    · intro v1 w1 ho1 hg1 _ _
      refine h v1 w1 ⟨_, by simpa [Kd.int, Kd.scal, List.length_append] using ho1, Kd.Cs.scal_iff.2 ⟨by simp, fun _ _ => trivial⟩, fun _ hb => hb.elim⟩ hg1
theorem own_empty (W : World) (base : Nat) (e : TypeId) (hb : base ≤ W.heap.size) : Kd.int.Own e (W.alloc (.cells #[] e)) base Kd.NoB (.slice (some ⟨W.heap.size, 0, none⟩) 0 0) [] :=
  ⟨[], by simpa [Kd.int, Kd.scal] using World.ownsRow_lit (base := base) (e := e) (size := 1) W #[] 0 hb (Nat.zero_le _) (by simp), Kd.Cs.nil _ _ _, fun _ hb => hb.elim⟩

/-! ### tools and able -/
theorem bytesLess_irrefl : ∀ x : List UInt8, Op.bytesLess x x = false
  | [] => rfl
  | a :: x => by simp [Op.bytesLess, bytesLess_irrefl x]
theorem bytesLess_trans : ∀ x y z : List UInt8, Op.bytesLess x y = true → Op.bytesLess y z = true → Op.bytesLess x z = true
  | [], [], _, h, _ => by simp [Op.bytesLess] at h
  | [], _ :: _, [], _, h => by simp [Op.bytesLess] at h
  | [], _ :: _, _ :: _, _, _ => by simp [Op.bytesLess]
  | _ :: _, [], _, h, _ => by simp [Op.bytesLess] at h
  | _ :: _, _ :: _, [], _, h => by simp [Op.bytesLess] at h
  | a :: x, b :: y, c :: z, h1, h2 => by
    have ih := bytesLess_trans x y z
    simp only [Op.bytesLess, Bool.or_eq_true, Bool.and_eq_true, decide_eq_true_eq, beq_iff_eq] at h1 h2 ⊢
    rcases h1 with h1 | ⟨rfl, h1⟩
    · rcases h2 with h2 | ⟨rfl, h2⟩
      · left; rw [UInt8.lt_iff_toNat_lt] at *; omega
      · exact .inl h1
    · rcases h2 with h2 | ⟨rfl, h2⟩
      · exact .inl h2
      · exact .inr ⟨rfl, ih h1 h2⟩
theorem tools_up : ∀ (l : List ByteArray) (p : Option ByteArray), toolsErr p l = 0 → (∀ q, p = some q → ∀ x ∈ l, Op.bytesLess q.toList x.toList = true) ∧ l.Pairwise (fun a b => Op.bytesLess a.toList b.toList = true) ∧ ∀ x ∈ l, nameOk x = true
  | [], p, _ => ⟨fun q _ x hx => absurd hx (by simp), List.Pairwise.nil, fun x hx => absurd hx (by simp)⟩
  | x :: l, p, h => by
    rw [toolsErr] at h
    split at h
    · omega
    · rename_i h1
      split at h
      · omega
      · rename_i h2
        obtain ⟨g1, g2, g3⟩ := tools_up l (some x) h
        have hq : ∀ q, p = some q → Op.bytesLess q.toList x.toList = true := fun q e => by
          subst e
          simpa [notLess] using h2
        refine ⟨fun q e y hy => ?_, List.pairwise_cons.2 ⟨fun y hy => g1 x rfl y hy, g2⟩, fun y hy => ?_⟩
        · rcases List.mem_cons.1 hy with rfl | hy
          · exact hq q e
          · exact bytesLess_trans _ _ _ (hq q e) (g1 x rfl y hy)
        · rcases List.mem_cons.1 hy with rfl | hy
          · simpa using h1
          · exact g3 y hy
def inStr (l : List ByteArray) (key : ByteArray) : Bool := l.any (fun u => decide (key = u))
theorem inStr_iff {l : List ByteArray} {key : ByteArray} : inStr l key = true ↔ key ∈ l := by
  unfold inStr
  rw [List.any_eq_true]
  constructor
  · rintro ⟨u, hu, h⟩
    rw [of_decide_eq_true h]; exact hu
  · intro h
    exact ⟨key, h, by simp⟩
theorem filter_one {l : List ByteArray} (h : l.Pairwise (fun a b => Op.bytesLess a.toList b.toList = true)) (key : ByteArray) (i : Int) : (l.filter (fun t => decide (key = t))).map (fun _ => i) = if inStr l key = true then [i] else [] := by
  induction l with
  | nil => rfl
  | cons x l ih =>
    obtain ⟨h1, h2⟩ := List.pairwise_cons.1 h
    rw [List.filter_cons]
    by_cases e : key = x
    · subst e
      have hn : inStr l key = false := by
        cases e : inStr l key with
        | false => rfl
        | true => have := h1 key (inStr_iff.1 e); rw [bytesLess_irrefl] at this; cases this
      rw [if_pos (by simp), List.map_cons, ih h2, hn, if_pos (inStr_iff.2 (List.mem_cons_self ..))]
      simp
    · have : inStr (x :: l) key = inStr l key := by simp [inStr, e]
      rw [if_neg (by simpa using e), ih h2, this]
theorem stPart_eq {x : Station} (h : toolsErr none x.tools = 0) (i : Nat) (t : ByteArray) : stPart x i t = if hasTool x t = true then [(i : Int)] else [] := by
  obtain ⟨_, h2, h3⟩ := tools_up _ _ h
  unfold stPart hasTool
  rw [filter_one h2]
  by_cases he : t = ⟨#[]⟩
  · have hn : inStr x.tools t = false := by
      cases e : inStr x.tools t with
      | false => rfl
      | true =>
        have := h3 t (inStr_iff.1 e)
        rw [he] at this
        revert this
        decide
    have h5 : (x.tools.any (fun u => seq u t) || isEmpty t) = true := by rw [(isEmpty_iff t).2 he, Bool.or_true]
    rw [if_pos he, hn, h5, if_pos rfl]
    rfl
  · have h4 : (x.tools.any (fun u => seq u t) || isEmpty t) = inStr x.tools t := by
      rw [Bool.eq_iff_iff, Bool.or_eq_true, List.any_eq_true, inStr_iff]
      constructor
      · rintro (⟨u, hu, hq⟩ | h)
        · rwa [← (seq_iff u t).1 hq]
        · exact absurd ((isEmpty_iff t).1 h) he
      · intro hm
        exact .inl ⟨t, hm, (seq_iff t t).2 rfl⟩
    rw [if_neg he, List.nil_append, h4]
theorem tools_able {ss : List Station} (h : errFrom (stationErr ss) ss.length 0 = 0) (t : ByteArray) : toolsOf ss t = ableOf ss t := by
  have go : ∀ k, toolsUpto ss k t = ableUpto ss t k := fun k => by
    induction k with
    | zero => rfl
    | succ k ih =>
      rw [toolsUpto, ableUpto, ih]
      congr 1
      cases e : ss[k]? with
      | none => rfl
      | some x =>
        obtain ⟨hk, rfl⟩ := List.getElem?_eq_some_iff.1 e
        exact stPart_eq (stationErr_tools ss k hk (errFrom_zero _ _ _ h k (by omega) (by omega))).1 k t
  exact go _
end Go.Proofs.Ythigebbihclbiaa
