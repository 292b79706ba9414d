/-
  How what comes in is opened: a slice of edges, a slice of texts. No condition.
-/
import Derived.Test.YtkmcepeejleahaaHD
import Derived.WalkKit
import Derived.ProofKit
import Derived.OpenShut
import Derived.ShutString
import Derived.ChangeOld
import Derived.Below
import Derived.SizedLaws
import Derived.Deep.Strs
namespace Go.Proofs.Ytkmcepeejleahaa.Open
open Go.ChangeShapes Go.WideShapes Go.ChangeAt Go.RowKit
open Go.ChangeMaps (open_string shut_string)
open Go.Proofs.Ytkmcepeejleahaa.Q Go.Proofs.YtkmcepeejleahaaW.PrintWords
set_option linter.unusedVariables false
theorem cells40 : Try.prog.cellsOf 40 = 2 := by kernel_rfl
theorem cells9 : Try.prog.cellsOf 9 = 1 := by kernel_rfl

/-- an edge's two cells -/
theorem open_edge {H : Type} {enc : TypeId × Value → H} {w : World} {base : Nat} {spare : Nat → Bool} {held : Bool} {fuel : Nat} {cs : List Value} {x : DataW H × List MemPlace} (h : DataW.trod enc Try.prog w base spare held fuel  40 cs = some x) :
    ∃ k : S40, cs = [.string k.f0, .string k.f1] ∧ okS k.f0 ∧ okS k.f1 := by
  obtain ⟨y0, y1, n, _, hl, h0, h1⟩ := Go.ChangeShapes.trod_struct2 Try.underlying40 h
  rw [cells40] at hl
  simp only [cells9] at h0 h1
  obtain ⟨s0, e0, _, z0⟩ := DataW.trod_string Try.underlying9 h0
  obtain ⟨s1, e1, _, z1⟩ := DataW.trod_string Try.underlying9 h1
  match cs, hl with
  | [u0, u1], _ =>
    simp at e0 e1
    exact ⟨⟨s0, s1⟩, by rw [e0, e1], z0, z1⟩

theorem open_edges {H : Type} {enc : TypeId × Value → H} {w : World} {base : Nat} {spare : Nat → Bool} {held : Bool} {a : Option Addr} {len cap : Nat} {d : DataW H} {p : List MemPlace} (h : DataW.Trod enc Try.prog w base spare held 24 (.slice a len cap) d p) :
    ∃ l : List S40, l.length = len ∧ len ≤ cap ∧ Kd.C k40 w a l.length l ∧ okE l := by
  obtain ⟨fuel, hf⟩ := h
  rcases Go.Deep.open_slice Try.underlying24 hf with ⟨hcs, _⟩ | ⟨x, l, c, m, n, D, Pl, hcs, _, hl, hm, hmm, _, hx⟩
  · simp [Value.cells] at hcs
    obtain ⟨rfl, rfl, rfl⟩ := hcs
    exact ⟨[], rfl, Nat.le_refl _, ⟨rfl, by simp, fun h => absurd h (by simp)⟩, fun k hk => by cases hk⟩
  · simp [Value.cells] at hcs
    obtain ⟨rfl, rfl, rfl⟩ := hcs
    have hlm : len ≤ m := by rw [hmm]; split <;> omega
    have each : ∀ i, i < len → ∃ k : S40, (∀ j u, [Value.string k.f0, .string k.f1][j]? = some u → w.cell? (x.add (i * 2 + j)) = some u) ∧ okS k.f0 ∧ okS k.f1 := by
      intro i hi
      obtain ⟨cs', hc, ht⟩ := hx i (by omega)
      obtain ⟨k, rfl, z0, z1⟩ := open_edge ht
      rw [cells40] at hc
      have hcell := (World.cells?_some hc).2.2
      refine ⟨k, fun j u hu => ?_, z0, z1⟩
      have hj : j < 2 := by have := (List.getElem?_eq_some_iff.1 hu).1; simpa using this
      rw [← Go.Deep.add_add, hcell j hj, hu]
    haveI : Inhabited S40 := ⟨⟨ByteArray.empty, ByteArray.empty⟩⟩
    obtain ⟨f, hf⟩ := Go.Deep.choose_lt each
    refine ⟨(List.range len).map f, by simp, hl, ⟨rfl, ?_, fun _ => ⟨x, rfl, fun j k hj => ?_⟩⟩, fun k hk => ?_⟩
    · simp only [List.length_map, List.length_range]
      unfold maxLen at hm
      omega
    · rw [List.getElem?_map] at hj
      obtain ⟨i, hi, rfl⟩ := Option.map_eq_some_iff.1 hj
      obtain ⟨hlt, e⟩ := List.getElem?_eq_some_iff.1 hi
      simp at hlt e
      subst e
      exact ⟨_, rfl, k40_mk w _, fun i u hu => (hf _ hlt).1 i u hu⟩
    · obtain ⟨i, hi, rfl⟩ := List.mem_map.1 hk
      exact (hf i (List.mem_range.1 hi)).2


theorem open_texts {H : Type} {enc : TypeId × Value → H} {w : World} {base : Nat} {spare : Nat → Bool} {held : Bool} {a : Option Addr} {len cap : Nat} {d : DataW H} {p : List MemPlace} (h : DataW.Trod enc Try.prog w base spare held 23 (.slice a len cap) d p) :
    ∃ l : List ByteArray, l.length = len ∧ len ≤ cap ∧ Kd.C Kd.string w a l.length l ∧ okL l := by
  obtain ⟨fuel, hf⟩ := h
  rcases Go.Deep.open_slice Try.underlying23 hf with ⟨hcs, _⟩ | ⟨x, l, c, m, n, D, Pl, hcs, _, hl, hm, hmm, _, hx⟩
  · simp [Value.cells] at hcs
    obtain ⟨rfl, rfl, rfl⟩ := hcs
    exact ⟨[], rfl, Nat.le_refl _, ⟨rfl, by simp, fun h => absurd h (by simp)⟩, fun k hk => by cases hk⟩
  · simp [Value.cells] at hcs
    obtain ⟨rfl, rfl, rfl⟩ := hcs
    have hlm : len ≤ m := by rw [hmm]; split <;> omega
    have each : ∀ i, i < len → ∃ k : ByteArray, (∀ j u, [Value.string k][j]? = some u → w.cell? (x.add (i * 1 + j)) = some u) ∧ okS k := by
      intro i hi
      obtain ⟨cs', hc, ht⟩ := hx i (by omega)
      obtain ⟨k, e0, _, z0⟩ := DataW.trod_string Try.underlying9 ht
      rw [cells9] at hc
      have hlen := (World.cells?_some hc).2.1
      have hcell := (World.cells?_some hc).2.2
      refine ⟨k, fun j u hu => ?_, z0⟩
      have hj : j < 1 := by have := (List.getElem?_eq_some_iff.1 hu).1; simpa using this
      rw [← Go.Deep.add_add, hcell j hj, e0]
      exact hu
    haveI : Inhabited ByteArray := ⟨ByteArray.empty⟩
    obtain ⟨f, hf⟩ := Go.Deep.choose_lt each
    refine ⟨(List.range len).map f, by simp, hl, ⟨rfl, ?_, fun _ => ⟨x, rfl, fun j k hj => ?_⟩⟩, fun k hk => ?_⟩
    · simp only [List.length_map, List.length_range]
      unfold maxLen at hm
      omega
    · rw [List.getElem?_map] at hj
      obtain ⟨i, hi, rfl⟩ := Option.map_eq_some_iff.1 hj
      obtain ⟨hlt, e⟩ := List.getElem?_eq_some_iff.1 hi
      simp at hlt e
      subst e
      exact ⟨[.string (f j)], rfl, rfl, fun i u hu => (hf _ hlt).1 i u hu⟩
    · obtain ⟨i, hi, rfl⟩ := List.mem_map.1 hk
      exact (hf i (List.mem_range.1 hi)).2
end Go.Proofs.Ytkmcepeejleahaa.Open
