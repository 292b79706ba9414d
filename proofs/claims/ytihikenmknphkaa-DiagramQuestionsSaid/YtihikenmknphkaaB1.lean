/-
  Diagrams: the maker in memory with its stores' blocks named; questions of both stores. No condition beyond those that stand in each.
-/
import Derived.Test.YtihikenmknphkaaA2
import Derived.Test.YtihikenmknphkaaOA
namespace Go.Proofs.Ytihikenmknphkaa.Q
open Go Go.RowKit Go.Maps Go.Proofs.YtihikenmknphkaaW.PrintWords Go.Proofs.YtihikenmknphkaaW.PrintLast Go.Proofs.YtihikenmknphkaaW.PrintMore Go.Proofs.Ytihikenmknphkaa.M
set_option linter.unusedVariables false
set_option linter.unusedSimpArgs false

theorem same_ev (l : List Int) (hl : l.length ≤ 100000) : ∃ k, flagstoneref17_Same.f k l l = some true := by
  have key : ∀ (k : Nat) (j : Nat), j ≤ l.length → l.length - j < k → flagstoneref17_Same.l0 k l l (j : Int) = some true := by
    intro k
    induction k with
    | zero => intro j _ h; omega
    | succ k ih =>
      intro j hj hk
      unfold flagstoneref17_Same.l0
      by_cases h : (j : Int) < (l.length : Int)
      · rw [if_pos h, if_pos (by omega), if_pos h, if_pos rfl, wrap_small (x := (j : Int) + 1) (by omega) (by omega)]
        exact ih (j + 1) (by omega) (by omega)
      · rw [if_neg h]
  refine ⟨l.length + 1, ?_⟩
  unfold flagstoneref17_Same.f
  rw [if_pos rfl]
  exact key _ 0 (by omega) (by omega)
/-- the maker, its stores' blocks named -/
structure MkC (B : Nat) (w : World) (G S S' m : Nat) (v : Value) (m' : Nat) (v' : Value) (A : Option Addr) (c : Nat) (ns : List N39) (all : List Int) : Prop where
  blk : w.heap[G]? = some (boxM S S' A all.length c)
  p : StAt 58 w S m v ns false
  r : StAt 67 w S' m' v' ns false
  ne : ∀ k, ownS S m v k → ¬ ownS S' m' v' k
  lo : ∀ k, ownS S m v k → B ≤ k
  lo' : ∀ k, ownS S' m' v' k → B ≤ k
  row : Kd.R k32 32 w B (fun _ => True) (.slice A all.length c) all
  g : B ≤ G
theorem MkAt.open_ {B : Nat} {w : World} {G S S' : Nat} {A : Option Addr} {c : Nat} {ns : List N39} {all : List Int} (h : MkAt B w G S S' A c ns ns all) : ∃ m v m' v', MkC B w G S S' m v m' v' A c ns all := by
  obtain ⟨m, v, m', v', h1, h2, h3, h4, h5⟩ := h.two
  exact ⟨m, v, m', v', h.blk, h1, h2, h3, h4, h5, h.row, h.g⟩
section
variable {B : Nat} {w w1 : World} {G S S' m : Nat} {v : Value} {m' : Nat} {v' : Value} {A : Option Addr} {c : Nat} {ns : List N39} {all : List Int}
theorem MkC.two (h : MkC B w G S S' m v m' v' A c ns all) : Two B w S S' ns ns := ⟨m, v, m', v', h.p, h.r, h.ne, h.lo, h.lo'⟩
theorem MkC.close (h : MkC B w G S S' m v m' v' A c ns all) : MkAt B w G S S' A c ns ns all := ⟨h.blk, h.two, h.row, h.g⟩
theorem MkC.size (h : MkC B w G S S' m v m' v' A c ns all) : B ≤ w.heap.size := h.two.size
/-- a block that is no part of it -/
def Free (G S S' m : Nat) (v : Value) (m' : Nat) (v' : Value) (A : Option Addr) (n c b : Nat) : Prop := b ≠ G ∧ ¬ ownS S m v b ∧ ¬ ownS S' m' v' b ∧ some b ≠ (Value.slice A n c).ownBlock
theorem MkC.free (h : MkC B w G S S' m v m' v' A c ns all) {b : Nat} (hb : w.heap.size ≤ b) : Free G S S' m v m' v' A all.length c b :=
  ⟨fun e => by have := blk_lt h.blk; omega, fun e => by have := h.p.lt e; omega, fun e => by have := h.r.lt e; omega, fun e => by have := Kd.R_lt h.row b e.symm; omega⟩
theorem MkC.far (h : MkC B w G S S' m v m' v' A c ns all) {b : Nat} (hb : Free G S S' m v m' v' A all.length c b) (hf : Fr w w1 (fun k => k = b)) : MkC B w1 G S S' m v m' v' A c ns all := by
  obtain ⟨b1, b2, b3, b4⟩ := hb
  refine ⟨(hf.blk G (blk_lt h.blk) (fun e => b1 e.symm)).trans h.blk, h.p.kept hf (fun k hk e => b2 (e ▸ hk)), h.r.kept hf (fun k hk e => b3 (e ▸ hk)), h.ne, h.lo, h.lo', ?_, h.g⟩
  exact Kd.R_mono (Kd.R_step (Kd.R_tight rfl h.row) (fun k ho hlt => hf.blk k hlt (fun e => b4 (by rw [← e]; exact ho)))) (fun _ _ => trivial)
theorem MkC.fr (h : MkC B w G S S' m v m' v' A c ns all) (hf : Fr w w1 (fun _ => False)) : MkC B w1 G S S' m v m' v' A c ns all := by
  refine ⟨hf.heap h.blk (fun e => e), h.p.kept hf (fun _ _ e => e), h.r.kept hf (fun _ _ e => e), h.ne, h.lo, h.lo', ?_, h.g⟩
  exact Kd.R_mono (Kd.R_step (Kd.R_tight rfl h.row) (fun k ho hlt => hf.blk k hlt (fun e => e))) (fun _ _ => trivial)
theorem MkC.below (h : MkC B w G S S' m v m' v' A c ns all) (hb : Below w.heap.size w w1) : MkC B w1 G S S' m v m' v' A c ns all := h.fr (Fr.of_below hb _)
theorem MkC.drew (h : MkC B w G S S' m v m' v' A c ns all) : MkC B w.drew G S S' m v m' v' A c ns all := h.below (below_drew1 (Below.refl _ _))
theorem MkC.c0 (h : MkC B w G S S' m v m' v' A c ns all) : w.cell? ⟨G, 0, none⟩ = some (.pointer (some ⟨S, 0, none⟩)) := (blk_cell h.blk 0).trans rfl
theorem MkC.c1 (h : MkC B w G S S' m v m' v' A c ns all) : w.cell? ⟨G, 1, none⟩ = some (.pointer (some ⟨S', 0, none⟩)) := (blk_cell h.blk 1).trans rfl
theorem MkC.c2 (h : MkC B w G S S' m v m' v' A c ns all) : w.cell? ⟨G, 2, none⟩ = some (.slice A all.length c) := (blk_cell h.blk 2).trans rfl
theorem MkC.c3 (h : MkC B w G S S' m v m' v' A c ns all) : w.cell? ⟨G, 3, none⟩ = some (.bool true) := (blk_cell h.blk 3).trans rfl
end
theorem fr_box {w w1 : World} (hf : Fr w w1 (fun _ => False)) {b : Nat} {o : Obj} (hb : w.heap[b]? = some o) : w1.heap[b]? = some o := hf.heap hb (fun e => e)
theorem fr_low {B : Nat} {w0 w w1 : World} (hb : Below B w0 w) (hB : B ≤ w.heap.size) (hf : Fr w w1 (fun _ => False)) : Below B w0 w1 := hb.trans (hf.below hB (fun _ e => e.elim))
/-- a box of a node -/
def boxN (x : N39) : Obj := .cells #[.int .i64 x.f0, .int .i64 x.f1, .int .i64 x.f2] 39 (0, 0)
/-- what At comes to -/
def atN (ns : List N39) (id : Int) : N39 := if 0 ≤ id ∧ id < ns.length then rd_T39 ns id else ⟨0, 0, 0⟩
def atB (ns : List N39) (id : Int) : Bool := decide (0 ≤ id ∧ id < ns.length)
theorem at_calls (ns : List N39) (id : Int) (S m : Nat) (v : Value) (full : Bool) (w : World) (hS : StAt 58 w S m v ns full) :
    Calls Try.prog 17 #[.pointer (some ⟨S, 0, none⟩), .int .i64 id] w fun e w' => e = .returned (.tuple #[.agg #[.int .i64 (atN ns id).f0, .int .i64 (atN ns id).f1, .int .i64 (atN ns id).f2], .bool (atB ns id)]) ∧ Below w.heap.size w w' := by
  by_cases h : 0 ≤ id ∧ id < ns.length
  · rw [show atN ns id = rd_T39 ns id from if_pos h, show atB ns id = true from decide_eq_true h]
    exact atP_yes ns id S m v full w hS h.1 h.2
  · rw [show atN ns id = ⟨0, 0, 0⟩ from if_neg h, show atB ns id = false from decide_eq_false h]
    exact atP_no ns id S m v full w hS (by omega)
theorem atB_valid {ns : List N39} {x : Int} (h : validN ns x = true) : atB ns x = decide (0 ≤ x) := by
  have := valid_lt h
  unfold atB
  by_cases h0 : 0 ≤ x
  · rw [decide_eq_true h0]; exact decide_eq_true ⟨h0, this.2⟩
  · rw [decide_eq_false h0]; exact decide_eq_false (fun e => h0 e.1)
theorem atN_node {ns : List N39} {x : Int} (h : validN ns x = true) (h0 : 0 ≤ x) : atN ns x = rd_T39 ns x := if_pos ⟨h0, (valid_lt h).2⟩
/-- the node that is there already -/
theorem node_there {ns : List N39} (hw : WF ns) {x : Int} (h : validN ns x = true) (h0 : 0 ≤ x) : nodeF ns (rd_T39 ns x).f0 (rd_T39 ns x).f1 (rd_T39 ns x).f2 = some (ns, x) := by
  have ht := hw.tops h0 h
  have hv := hw.ways h0 h
  have h1 := hw.test h0 h
  have hr : refuses ns (rd_T39 ns x).f0 (rd_T39 ns x).f1 (rd_T39 ns x).f2 = false := refuses_iff.2 ⟨h1, hv.1, hv.2, ht.2.1, ht.2.2.1⟩
  unfold nodeF
  rw [hr, if_neg (by simp), if_neg ht.2.2.2]
  obtain ⟨hi, e⟩ := rd_int39 h0 (valid_lt h).2
  have hf : findN ns ⟨(rd_T39 ns x).f0, (rd_T39 ns x).f1, (rd_T39 ns x).f2⟩ = some x.toNat := by
    cases hq : findN ns ⟨(rd_T39 ns x).f0, (rd_T39 ns x).f1, (rd_T39 ns x).f2⟩ with
    | none => exact absurd (e ▸ List.getElem_mem hi) (findN_none hq)
    | some j =>
      obtain ⟨hj, ej⟩ := findN_some hq
      have : ns[j] = ns[x.toNat] := ej.trans (show (⟨(rd_T39 ns x).f0, (rd_T39 ns x).f1, (rd_T39 ns x).f2⟩ : N39) = _ by rw [← e])
      rw [(List.getElem_inj hw.once).1 this]
  rw [hf]
  simp only
  rw [Int.toNat_of_nonneg h0]
theorem chain_top {ns : List N39} (hw : WF ns) {x y : Int} (h : validN ns x = true) (h0 : 0 ≤ x) (hy : y = (rd_T39 ns x).f1 ∨ y = (rd_T39 ns x).f2) (hb : atB ns y = true) : ¬ (atN ns y).f0 ≤ (rd_T39 ns x).f0 := by
  have ht := hw.tops h0 h
  unfold atB at hb
  have hb2 := of_decide_eq_true hb
  rw [show atN ns y = rd_T39 ns y from if_pos hb2]
  have e : topN ns y = (rd_T39 ns y).f0 := by unfold topN; rw [if_neg (by omega)]
  rcases hy with rfl | rfl <;> omega
theorem MkC.node {B : Nat} {w : World} {G S S' m : Nat} {v : Value} {m' : Nat} {v' : Value} {A : Option Addr} {c : Nat} {ns : List N39} {all : List Int} (h : MkC B w G S S' m v m' v' A c ns all) {t y n r : Int} (hn : nodeF ns t y n = some (ns, r)) :
    Calls Try.prog 18 #[.pointer (some ⟨S, 0, none⟩), .int .i64 t, .int .i64 y, .int .i64 n] w fun e w1 => e = .returned (.int .i64 r) ∧ MkAt B w1 G S S' A c ns ns all ∧ Below B w w1 ∧ (∀ b o, w.heap[b]? = some o → Free G S S' m v m' v' A all.length c b → w1.heap[b]? = some o) := by
  have hs := h.size
  have ht := h.two
  refine (nodeP_calls S m v ns ns false t y n r w h.p hn).mono ?_
  rintro e w1 ⟨rfl, v1, k1, k2, k3⟩
  have hkq : Kq L3 B w w1 := Kq.of_own h.p (.inl rfl) k2 h.lo hs
  refine ⟨rfl, h.close.step hkq ⟨m, v1, m', v', k1, h.r.kept k2 (fun k hk hn => h.ne k hn hk), fun k hk hk' => ?_, fun k hk => ?_, h.lo'⟩, hkq.b, fun b o hb hf => k2.heap hb hf.2.1⟩
  · rcases own_step k3 hk with e | e
    · exact h.ne k e hk'
    · have := h.r.lt hk'; omega
  · rcases own_step k3 hk with e | e
    · exact h.lo k e
    · omega
theorem Two.atP {B : Nat} {w : World} {S S' : Nat} {ns ns' : List N39} (h : Two B w S S' ns ns') (id : Int) : Calls Try.prog 17 #[.pointer (some ⟨S, 0, none⟩), .int .i64 id] w fun e w' => e = .returned (.tuple #[.agg #[.int .i64 (atN ns id).f0, .int .i64 (atN ns id).f1, .int .i64 (atN ns id).f2], .bool (atB ns id)]) ∧ Fr w w' (fun _ => False) := by
  obtain ⟨m, v, m', v', h1, _⟩ := h
  refine (at_calls ns id S m v false w h1).mono ?_
  rintro e w' ⟨rfl, hb⟩
  exact ⟨rfl, Fr.of_below hb _⟩
theorem Two.leavesP {B : Nat} {w : World} {S S' : Nat} {ns ns' : List N39} (h : Two B w S S' ns ns') (hw : WF ns) (id : Int) (ho : okI id) : Calls Try.prog 13 #[.pointer (some ⟨S, 0, none⟩), .int .i64 id] w fun e w' => ∃ v', e = .returned v' ∧ Kd.R (Kd.int .i64) 3 w' w.heap.size (fun _ => True) v' (leavesF ns id) ∧ Fr w w' (fun _ => False) := by
  obtain ⟨m, v, m', v', h1, _⟩ := h
  exact leavesP_calls ns id S m v false w hw h1 ho
theorem Two.sizeP {B : Nat} {w : World} {S S' : Nat} {ns ns' : List N39} (h : Two B w S S' ns ns') (hw : WF ns) (id : Int) (ho : okI id) : Calls Try.prog 15 #[.pointer (some ⟨S, 0, none⟩), .int .i64 id] w fun e w' => e = .returned (.int .i64 (sizeF ns id)) ∧ Fr w w' (fun _ => False) := by
  obtain ⟨m, v, m', v', h1, _⟩ := h
  exact sizeP_calls ns id S m v false w hw h1 ho
end Go.Proofs.Ytihikenmknphkaa.Q
