/- The kinds of this program's data: tasks, stations; how an element of a slice of them is read. -/
import Derived.Test.YthigebbihclbiaaProg
import Derived.Test.YthigebbihclbiaaOwn
import Derived.Test.YthigebbihclbiaaName
namespace Go.Proofs.Ythigebbihclbiaa
open Go.RowKit

structure Task where
  name : ByteArray
  dur : Int
  tool : ByteArray
  after : List Int
structure Station where
  name : ByteArray
  tools : List ByteArray
structure Shop where
  tasks : List Task
  stations : List Station

namespace Kd
def ints : Kd (List Int) := slice int (Nat.one_pos)
def strs : Kd (List ByteArray) := slice string (Nat.one_pos)
def task : Kd Task := iso (pair string (pair int (pair string ints))) (fun x => (x.name, x.dur, x.tool, x.after))
def station : Kd Station := iso (pair string strs) (fun x => (x.name, x.tools))
theorem sz_task : task.sz = 4 := rfl
theorem sz_station : station.sz = 2 := rfl

theorem K_task {w : World} {F : Nat → Prop} {x : Task} {cs : List Value} : task.K w F x cs ↔ ∃ v, cs = [.string x.name, .int .i64 x.dur, .string x.tool, v] ∧ x.name.size ≤ 9223372036854775807 ∧ x.tool.size ≤ 9223372036854775807 ∧ int.Sl w F x.after v := by
  constructor
  · rintro ⟨_, _, rfl, ⟨rfl, h1⟩, _, _, rfl, ⟨rfl, _⟩, _, _, rfl, ⟨rfl, h2⟩, v, rfl, h⟩
    exact ⟨v, rfl, h1, h2, h⟩
  · rintro ⟨v, rfl, h1, h2, h⟩
    exact ⟨[_], [_, _, _], rfl, ⟨rfl, h1⟩, [_], [_, _], rfl, ⟨rfl, trivial⟩, [_], [_], rfl, ⟨rfl, h2⟩, v, rfl, h⟩
theorem K_station {w : World} {F : Nat → Prop} {x : Station} {cs : List Value} : station.K w F x cs ↔ ∃ v, cs = [.string x.name, v] ∧ x.name.size ≤ 9223372036854775807 ∧ string.Sl w F x.tools v := by
  constructor
  · rintro ⟨_, _, rfl, ⟨rfl, h1⟩, v, rfl, h⟩
    exact ⟨v, rfl, h1, h⟩
  · rintro ⟨v, rfl, h1, h⟩
    exact ⟨[_], [_], rfl, ⟨rfl, h1⟩, v, rfl, h⟩
theorem K_after {w : World} {F : Nat → Prop} {x : Task} {a b c v : Value} (h : task.K w F x [a, b, c, v]) : int.Sl w F x.after v := by
  obtain ⟨u, he, _, _, hu⟩ := K_task.1 h
  simp only [List.cons.injEq, and_true] at he
  obtain ⟨_, _, _, rfl⟩ := he
  exact hu
theorem K_tools {w : World} {F : Nat → Prop} {x : Station} {a v : Value} (h : station.K w F x [a, v]) : string.Sl w F x.tools v := by
  obtain ⟨u, he, _, hu⟩ := K_station.1 h
  simp only [List.cons.injEq, and_true] at he
  obtain ⟨_, rfl⟩ := he
  exact hu
theorem K_tsize {w : World} {F : Nat → Prop} {x : Task} {cs : List Value} (h : task.K w F x cs) : x.name.size ≤ 9223372036854775807 ∧ x.tool.size ≤ 9223372036854775807 := by
  obtain ⟨u, _, h1, h2, _⟩ := K_task.1 h
  exact ⟨h1, h2⟩
theorem K_ssize {w : World} {F : Nat → Prop} {x : Station} {cs : List Value} (h : station.K w F x cs) : x.name.size ≤ 9223372036854775807 := by
  obtain ⟨u, _, h1, _⟩ := K_station.1 h
  exact h1
end Kd

/-- A task of a slice, read. -/
theorem task_at {w : World} {F : Nat → Prop} {A : Option Addr} {xs : List Task} (h : Kd.task.Row w F A xs) (k : Nat) (hk : k < xs.length) :
    ∃ b o A' c, A = some ⟨b, o, none⟩ ∧ F b ∧ b < w.heap.size ∧ w.cell? ⟨b, o + k * 4, none⟩ = some (.string xs[k].name) ∧ w.cell? ⟨b, o + k * 4 + 1, none⟩ = some (.int .i64 xs[k].dur) ∧ w.cell? ⟨b, o + k * 4 + 2, none⟩ = some (.string xs[k].tool) ∧
      w.cell? ⟨b, o + k * 4 + 3, none⟩ = some (.slice A' xs[k].after.length c) ∧ Kd.task.K w F xs[k] [.string xs[k].name, .int .i64 xs[k].dur, .string xs[k].tool, .slice A' xs[k].after.length c] := by
  obtain ⟨b, o, cs, hA, hb, hK, hc⟩ := h k hk
  obtain ⟨v, rfl, h1, h2, hv⟩ := Kd.K_task.1 hK
  obtain ⟨A', c, rfl, _⟩ := id hv
  exact ⟨b, o, A', c, hA, hb, World.block_lt_of_cell? w _ (hc 0 _ rfl), hc 0 _ rfl, hc 1 _ rfl, hc 2 _ rfl, hc 3 _ rfl, hK⟩
theorem station_at {w : World} {F : Nat → Prop} {A : Option Addr} {xs : List Station} (h : Kd.station.Row w F A xs) (k : Nat) (hk : k < xs.length) :
    ∃ b o A' c, A = some ⟨b, o, none⟩ ∧ F b ∧ b < w.heap.size ∧ w.cell? ⟨b, o + k * 2, none⟩ = some (.string xs[k].name) ∧ w.cell? ⟨b, o + k * 2 + 1, none⟩ = some (.slice A' xs[k].tools.length c) ∧ Kd.station.K w F xs[k] [.string xs[k].name, .slice A' xs[k].tools.length c] := by
  obtain ⟨b, o, cs, hA, hb, hK, hc⟩ := h k hk
  obtain ⟨v, rfl, h1, hv⟩ := Kd.K_station.1 hK
  obtain ⟨A', c, rfl, _⟩ := id hv
  exact ⟨b, o, A', c, hA, hb, World.block_lt_of_cell? w _ (hc 0 _ rfl), hc 0 _ rfl, hc 1 _ rfl, hK⟩
theorem str_at {w : World} {F : Nat → Prop} {A : Option Addr} {xs : List ByteArray} (h : Kd.string.Row w F A xs) (k : Nat) (hk : k < xs.length) : ∃ b o, A = some ⟨b, o, none⟩ ∧ F b ∧ b < w.heap.size ∧ w.cell? ⟨b, o + k, none⟩ = some (.string xs[k]) ∧ xs[k].size ≤ 9223372036854775807 := by
  obtain ⟨b, o, cs, hA, hb, hK, hc⟩ := h k hk
  obtain ⟨rfl, hz⟩ := hK
  have := hc 0 _ rfl
  exact ⟨b, o, hA, hb, World.block_lt_of_cell? w _ this, by simpa [Kd.string, Kd.scal] using this, hz⟩
end Go.Proofs.Ythigebbihclbiaa
