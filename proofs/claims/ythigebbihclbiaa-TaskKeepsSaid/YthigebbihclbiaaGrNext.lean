/- Rows of ints of the call's own, in a row of headers; rows that grow. -/
import Derived.Test.YthigebbihclbiaaGrEdgesW
import Derived.Deep.AppendLies
import Derived.Deep.RegionLaw
namespace Go.Proofs.Ythigebbihclbiaa
open Go.RowKit
set_option maxRecDepth 100000

structure NMat (wr : World) (base g n : Nat) (hs : List Hdr) (m : List (List Int)) : Prop where
  outer : Kd.hdr.Own 31 wr base Kd.NoB (.slice (some ⟨g, 0, none⟩) n n) hs
  hl : hs.length = n
  ml : m.length = n
  inner : ∀ (i : Nat) (h : Hdr) (x : List Int), hs[i]? = some h → m[i]? = some x → Kd.int.Own 3 wr base Kd.NoB h.enc x
  sep : ∀ (i j : Nat) (a b : Hdr), i ≠ j → hs[i]? = some a → hs[j]? = some b → a.enc.ownBlock = none ∨ a.enc.ownBlock ≠ b.enc.ownBlock
  apart : ∀ (i : Nat) (a : Hdr), hs[i]? = some a → a.enc.ownBlock ≠ some g
theorem NMat.below {wr wx : World} {base g n : Nat} {hs : List Hdr} {m : List (List Int)} (h : NMat wr base g n hs m) (hb : Below wr.heap.size wr wx) : NMat wx base g n hs m :=
  ⟨h.outer.below hb, h.hl, h.ml, fun i a x h1 h2 => (h.inner i a x h1 h2).below hb, h.sep, h.apart⟩
theorem NMat.start (W : World) (base n : Nat) (hb : base ≤ W.heap.size) (hn : n ≤ 9223372036854775807) : NMat (W.alloc (.cells (madeCells #[.slice none 0 0] n) 31)) base W.heap.size n (List.replicate n (none, 0, 0)) (List.replicate n []) := by
  refine ⟨Kd.Own.made (enc := Hdr.enc) (P := fun _ => True) (h1 := fun _ => rfl) W base 31 (none, 0, 0) n trivial hb hn, List.length_replicate, List.length_replicate, ?_, ?_, ?_⟩
  · intro i h x h1 h2
    obtain rfl := rep_get h1
    obtain rfl := rep_get h2
    exact Kd.Own.nil _ _ _ _ _
  · intro i j a b _ h1 _
    obtain rfl := rep_get h1
    exact .inl rfl
  · intro i a h1
    obtain rfl := rep_get h1
    simp [Hdr.enc, Value.ownBlock]
/-- A row has grown, and its header is stored. -/
theorem NMat.grown {wr w1 : World} {base g n : Nat} {hs : List Hdr} {m : List (List Int)} (h : NMat wr base g n hs m) (i : Nat) (hd hd' : Hdr) (x x' : List Int) (h1 : hs[i]? = some hd) (h2 : m[i]? = some x)
    (ho : Kd.int.Own 3 w1 base Kd.NoB hd'.enc x') (hg : wr.grownBy w1 hd.enc.ownBlock) (hat : hd'.enc.ownBlock = hd.enc.ownBlock ∨ ∃ b, hd'.enc.ownBlock = some b ∧ wr.heap.size ≤ b) :
    NMat (w1.setCell ⟨g, i, none⟩ hd'.enc) base g n (hs.set i hd') (m.set i x') := by
  have hi : i < hs.length := (List.getElem?_eq_some_iff.1 h1).1
  have him : i < m.length := (List.getElem?_eq_some_iff.1 h2).1
  have hgl := (h.outer.lt g rfl)
  have hout := h.outer.grown hg (by
    cases e : hd.enc.ownBlock with
    | none => exact .inr (by simp [Value.ownBlock])
    | some k => exact .inr (fun x => h.apart i hd h1 (by rw [e]; exact x.symm))) (fun _ hb => hb.elim)
  obtain ⟨k1, k2⟩ := Kd.Own.set (enc := Hdr.enc) (P := fun _ => True) (h1 := fun _ => rfl) hout i hd' trivial
  have ng : hd'.enc.ownBlock ≠ some g := fun e => by
    rcases hat with h3 | ⟨b, h3, hb⟩
    · exact h.apart i hd h1 (h3 ▸ e)
    · rw [h3] at e
      have := Option.some.inj e
      omega
  have old : ∀ (j : Nat) (a : Hdr), hs[j]? = some a → ∀ b, a.enc.ownBlock = some b → b < wr.heap.size := fun j a ha b hb => by
    have hj : j < m.length := by rw [h.ml, ← h.hl]; exact (List.getElem?_eq_some_iff.1 ha).1
    exact ((h.inner j a _ ha (List.getElem?_eq_getElem hj)).lt b hb).2
  have far : ∀ (j : Nat) (a : Hdr), j ≠ i → hs[j]? = some a → a.enc.ownBlock = none ∨ a.enc.ownBlock ≠ hd'.enc.ownBlock := fun j a hj ha => by
    cases e : a.enc.ownBlock with
    | none => exact .inl rfl
    | some b =>
      right
      intro e2
      rcases hat with h3 | ⟨c, h3, hc⟩
      · rcases h.sep j i a hd hj ha h1 with h4 | h4
        · rw [e] at h4; cases h4
        · exact h4 (by rw [e, e2, h3])
      · rw [h3] at e2
        have := old j a ha b e
        have := Option.some.inj e2
        omega
  refine ⟨k1, by rw [List.length_set]; exact h.hl, by rw [List.length_set]; exact h.ml, ?_, ?_, ?_⟩
  · intro j a y h3 h4
    by_cases hj : j = i
    · subst hj
      rw [List.getElem?_set_self hi] at h3
      rw [List.getElem?_set_self him] at h4
      cases h3; cases h4
      refine ho.grown k2 ?_ (fun _ hb => hb.elim)
      exact .inr ng
    · rw [List.getElem?_set_ne (fun e => hj e.symm)] at h3 h4
      refine ((h.inner j a y h3 h4).grown hg (h.sep j i a hd hj h3 h1) (fun _ hb => hb.elim)).grown k2 ?_ (fun _ hb => hb.elim)
      exact .inr (h.apart j a h3)
  · intro j k a b hjk h3 h4
    by_cases hj : j = i
    · subst hj
      rw [List.getElem?_set_self hi] at h3
      rw [List.getElem?_set_ne hjk] at h4
      cases h3
      rcases far k b (fun e => hjk e.symm) h4 with h5 | h5
      · cases e : hd'.enc.ownBlock with
        | none => exact .inl rfl
        | some q => exact .inr (by rw [h5]; simp)
      · exact .inr (fun e => h5 e.symm)
    · rw [List.getElem?_set_ne (fun e => hj e.symm)] at h3
      by_cases hk : k = i
      · subst hk
        rw [List.getElem?_set_self hi] at h4
        cases h4
        exact far j a hj h3
      · rw [List.getElem?_set_ne (fun e => hk e.symm)] at h4
        exact h.sep j k a b hjk h3 h4
  · intro j a h3
    by_cases hj : j = i
    · subst hj
      rw [List.getElem?_set_self hi] at h3
      cases h3
      exact ng
    · rw [List.getElem?_set_ne (fun e => hj e.symm)] at h3
      exact h.apart j a h3

def nextStep (m : List (List Int)) (e : Int × Int) : List (List Int) := m.set e.1.toNat (m.getD e.1.toNat [] ++ [e.2])
/-- For each node, to which ones edges lead. -/
def nextOf (n : Nat) (es : List (Int × Int)) : List (List Int) := es.foldl nextStep (List.replicate n [])
theorem ints_info : (Try.prog.info? 31).map (fun i => (i.zero, i.size, i.bytes)) = some (some (.slice none 0 0), 1, 24) := by kernel_rfl
end Go.Proofs.Ythigebbihclbiaa

/- graph.next, walked. -/
namespace Go.Proofs.Ythigebbihclbiaa
open Go.RowKit
set_option maxRecDepth 100000

set_option maxHeartbeats 2000000 in
theorem graph_next (n : Nat) (es : List (Int × Int)) (F : Nat → Prop) (v : Value) (w : World) (h : GraphAt w F n es v) (hn : n ≤ 64) (hl : es.length ≤ 4096) (hm : ∀ e ∈ es, 0 ≤ e.1 ∧ e.1 < (n : Int)) :
    Calls Try.prog 61 #[v] w fun e w' => ∃ hs, e = .returned (.slice (some ⟨w.heap.size + 1, 0, none⟩) n n) ∧ NMat w' (w.heap.size + 1) (w.heap.size + 1) n hs (nextOf n es) ∧ Below w.heap.size w w' := by
  obtain ⟨v2, rfl, A, c, rfl, hc1, hc2, hr⟩ := h
  have hB := Boxed.start w (.int .i64 n) (.slice A es.length c) 70
  have hmk := Kd.run_made (Pg := Try.prog) 51 31 (.slice none 0 0) 24 Try.underlying51 ints_info rfl (by omega) n (by omega)
  have hm0 := NMat.start (w.alloc (.cells #[.int .i64 n, .slice A es.length c] 70)) (w.heap.size + 1) n (by simp) (by omega)
  rw [show (w.alloc (.cells #[.int .i64 n, .slice A es.length c] 70)).heap.size = w.heap.size + 1 by simp] at hm0
  have HM := Lib.hid hm
  have HE := Lib.hid (show nextOf n es = es.foldl nextStep (List.replicate n []) from rfl)
  generalize nextOf n es = R at *
  clear hm
  go_enter Try.func61, Try.ntmps61
  go_upto_region 2 with fail
  have hB2 := hB.later (below_one _ (.cells (madeCells #[.slice none 0 0] n) 31))
  clear hmk hB
  generalize (w.alloc _).alloc _ = W at *
  have k1 := hB2.c1
  go_wp2_with fail
  clear k1
  go_loopw [5, 12] (fun _ i12 wr => ∃ (k : Nat) (hs : List Hdr) (m : List (List Int)), k ≤ es.length ∧ i12 = .int .i64 k ∧ Boxed w wr (.int .i64 n) (.slice A es.length c) ∧ NMat wr (w.heap.size + 1) (w.heap.size + 1) n hs m ∧ Hid (R = (es.drop k).foldl nextStep m) ∧ Hid (∀ x ∈ m, x.length ≤ k)) (fun _ i12 _ => es.length - (intOf i12).toNat)
  case atStart => exact ⟨0, _, _, Nat.zero_le _, rfl, hB2, hm0, Lib.hid HE.out, Lib.hid (fun x hx => by rw [List.eq_of_mem_replicate hx]; exact Nat.le_refl _)⟩
  case round =>
    clear hB2 hm0
    obtain ⟨k, hs, m, hk, rfl, hB, hM, H, HL⟩ := hrel
    by_cases hlt : k < es.length
    · obtain ⟨b, o, rfl, _, hl1, cw0, cw1⟩ := edge_at hr k hlt
      have c0 := (hB.below.cell (p := ⟨b, o + k * 2, none⟩) hl1).trans cw0
      have c1 := (hB.below.cell (p := ⟨b, o + k * 2 + 1, none⟩) hl1).trans cw1
      obtain ⟨m0, m1⟩ := HM.out es[k] (List.getElem_mem _)
      have hlt' : (k : Int) < (es.length : Int) := by omega
      have S := Lib.hid (show (es.drop k).foldl nextStep m = (es.drop (k+1)).foldl nextStep (nextStep m es[k]) by rw [List.drop_eq_getElem_cons hlt]; rfl)
      clear cw0 cw1
      generalize es[k] = e at *
      obtain ⟨x, y⟩ := e
      simp only at c0 c1 m0 m1
      obtain ⟨x, rfl⟩ := Int.eq_ofNat_of_zero_le m0
      have hx : x < n := by omega
      have hxs : x < hs.length := by rw [hM.hl]; exact hx
      have hxm : x < m.length := by rw [hM.ml]; exact hx
      have h1 : hs[x]? = some hs[x] := List.getElem?_eq_getElem hxs
      have h2 : m[x]? = some m[x] := List.getElem?_eq_getElem hxm
      have hbx := below_one wr (.cells #[.int .i64 (x : Int), .int .i64 y] 89)
      have hM2 := hM.below hbx
      have hB3 := hB.later hbx
      obtain ⟨r1, r2, _⟩ := hM2.outer.cell x hxs
      have hin := hM2.inner x _ _ h1 h2
      have hnb : some wr.heap.size ≠ hs[x].enc.ownBlock := fun e => by have := ((hM.inner x _ _ h1 h2).lt _ e.symm).2; omega
      have hxl : m[x].length ≤ k := HL.out _ (List.getElem_mem _)
      have hin2 : hs[x].2.1 = m[x].length := by
        obtain ⟨_, _, he, _⟩ := hin.slice
        exact (Value.slice.inj he).2.1
      have hgx : (⟨hs[x].1, hs[x].2.1, hs[x].2.2⟩ : Hdr) = hs[x] := rfl
      generalize hhd : hs[x] = hd at *
      clear hhd
      obtain ⟨hA, hn2, hc⟩ := hd
      simp only at hin2
      subst hin2
      simp only [Hdr.enc] at r1 hnb
      go_upto_region 5 with fail
      have q0 : (wr.alloc (.cells #[.int .i64 (x : Int), .int .i64 y] 89)).cell? ⟨wr.heap.size, 0, none⟩ = some (.int .i64 (x : Int)) := by go_simp
      have q1 : (wr.alloc (.cells #[.int .i64 (x : Int), .int .i64 y] 89)).cell? ⟨wr.heap.size, 1, none⟩ = some (.int .i64 y) := by go_simp
      have hsz : wr.heap.size < (wr.alloc (.cells #[.int .i64 (x : Int), .int .i64 y] 89)).heap.size := by simp
      generalize wr.alloc (.cells #[.int .i64 (x : Int), .int .i64 y] 89) = wB at *
      have hx0 : (0 : Int) ≤ (x : Int) := by omega
      have hx1 : (x : Int) < (n : Int) := by omega
      obtain ⟨i0, hi0, hz0, hz1, hz2⟩ := info_parts int_info
      have hown := own_int.1 hin
      have hgl := hM2.outer.lt _ rfl
      have hgl4 := (hM.outer.lt _ rfl).2
      have hne : (Value.slice hA m[x].length hc).ownBlock ≠ some (w.heap.size + 1) := hM2.apart x _ h1
      have hwB : w.heap.size + 1 ≤ wB.heap.size := by omega
      have hnn : ∀ o, (⟨w.heap.size + 1, x, none⟩ : Addr) ≠ ⟨wr.heap.size, o, none⟩ := fun o e => by injection e with e _ _; omega
      have hgl3 := hgl.2
      have hgl2 : ∀ {o : Obj}, w.heap.size + 1 < (wB.alloc o).heap.size := fun {o} => by simp; omega
      generalize m[x] = mx at *
      clear c0 c1 hgx hin
      go_region_law ((refine step_append_lies _ (by rfl) _ _ _ (by rfl) (w.heap.size + 1) 3 i0 _ 1 8 Try.underlying31 hi0 hz0 hz1 hz2 rfl (by omega) (.slice hA mx.length hc) mx.length (mx.map (Value.int .i64)) (by rfl) ((hown.alloc _).drew) ⟨wB.heap.size, 0, none⟩ 1 1 [.int .i64 y] (by rfl) (by rfl) (World.news_of_block (cs := #[.int .i64 y]) (t := 3) (fr := (0, 0)) (heap_alloc_new wB _)) (by simp [Value.oneCell']) (by omega) (by simp only [maxLen]; omega) (by omega) (by simp; omega) (wB.heap.size + 1) (by simp) ?_; intro gg cap w1 hown1 hgrow hat hlt3; have q0' := hgrow.cell (Lib.cell?_alloc_some _ q0) hnb; have q1' := hgrow.cell (Lib.cell?_alloc_some _ q1) hnb; have r1' := hgrow.cell (Lib.cell?_alloc_some _ r1) (fun e => hne e.symm); have r2' := (hgrow.frozen_far ⟨w.heap.size + 1, x, none⟩ hgl2 (fun e => hne e.symm)).trans (((below_one wB _).frozen (p := ⟨w.heap.size + 1, x, none⟩) hgl.2).trans r2)))
      all_goals
        have hgr : wB.grownBy w1 (Hdr.enc (hA, mx.length, hc)).ownBlock := World.grownBy.trans (World.grownBy.trans (World.grownBy_alloc wB _ _) ((Drawn.one (Drawn.refl _)).grown _)) hgrow
        have hM3 := hM2.grown x (hA, mx.length, hc) (some ⟨gg, 0, none⟩, mx.length + 1, cap) mx (mx ++ [y]) h1 h2 (own_int.2 (by simpa [Hdr.enc] using hown1)) hgr (by
          rcases hat with h | h
          · exact .inl h.symm
          · exact .inr ⟨gg, rfl, by omega⟩)
        have ne0 : some w.heap.size ≠ (Hdr.enc (hA, mx.length, hc)).ownBlock := fun e => by have : w.heap.size + 1 ≤ w.heap.size := ((hM2.inner x _ _ h1 h2).lt _ e.symm).1; omega
        have nea : ∀ o, (⟨w.heap.size + 1, x, none⟩ : Addr) ≠ ⟨w.heap.size, o, none⟩ := fun o e => by injection e with e _ _; omega
        have hB4 : Boxed w (w1.setCell ⟨w.heap.size + 1, x, none⟩ (Hdr.enc (some ⟨gg, 0, none⟩, mx.length + 1, cap))) (.int .i64 n) (.slice (some ⟨b, o, none⟩) es.length c) :=
          ⟨by rw [World.cell?_setCell_other _ _ _ _ (nea 0)]; exact hgr.cell hB3.c0 ne0, by rw [World.cell?_setCell_other _ _ _ _ (nea 1)]; exact hgr.cell hB3.c1 ne0,
            (hB3.below.grown hgr hB3.below.size (fun j hj => by have : w.heap.size + 1 ≤ j := ((hM2.inner x _ _ h1 h2).lt j hj).1; omega)).setCell (by show w.heap.size ≤ w.heap.size + 1; omega) _,
            by have := hgr.size; have := hB3.size; simp [World.setCell]; omega⟩
        have HS : Hid (R = (es.drop (k+1)).foldl nextStep (m.set x (mx ++ [y]))) := Lib.hid (by rw [H.out, S.out]; unfold nextStep; simp [h2])
        have HL2 : Hid (∀ z ∈ m.set x (mx ++ [y]), z.length ≤ k + 1) := Lib.hid (fun z hz => by
          rcases List.mem_or_eq_of_mem_set hz with hz | rfl
          · have := HL.out z hz; omega
          · simp; omega)
        simp only [Hdr.enc] at hM3 hB4
        clear hgr hgrow hown1 hat q0 q1 r1 q0' q1' r1' r2 r2' hM hM2 hB hB3 hlt3
        go_wp2_with fail
        go_roundw
        case rel => first | exact ⟨k+1, _, _, by omega, by go_num, hB4, hM3, HS, HL2⟩ | exact ⟨k+1, _, _, by omega, by go_num, hB4.later ((Below.refl _ _).drew), hM3.below ((Below.refl _ _).drew), HS, HL2⟩
        case measure => simp [intOf]; omega
    · go_wp2_with fail
      go_ret
      exact ⟨hs, rfl, by rw [H.out, List.drop_of_length_le (by omega)]; exact hM, hB.below⟩
end Go.Proofs.Ythigebbihclbiaa
