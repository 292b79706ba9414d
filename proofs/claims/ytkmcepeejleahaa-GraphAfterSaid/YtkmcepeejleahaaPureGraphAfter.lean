/-
  GraphAfter answers true at every input. No condition.
-/
import Derived.Test.YtkmcepeejleahaaQ5
import Derived.Test.YtkmcepeejleahaaL1
namespace Go.Proofs.Ytkmcepeejleahaa.Pure
open Go.RowKit Go.Proofs.Ytkmcepeejleahaa.Q Go.Proofs.YtkmcepeejleahaaW.PrintWords Go.Proofs.YtkmcepeejleahaaW.PrintLast

theorem down_reach {es : List S40} (h : ∀ e ∈ es, ltS e.f1 e.f0) {a x : ByteArray} (hr : Q.Reach es a x) : ltS x a := by
  induction hr with
  | one he ha => exact ha ▸ h _ he
  | more _ he ih => exact ltS_trans (h _ he) ih
theorem after_inner (l : List ByteArray) (x : List S40) (o w : List ByteArray) (i : Int) (h0 : 0 ≤ i) (hi : i < o.length) (ho : o.length ≤ 1000) (hw : w.length ≤ 1000) (hm : ∀ y ∈ w, y ∈ o.take i.toNat) {r : Bool} (hnext : Ev (fun k => flagstonelaw10_GraphAfter.l0 k l x o (i + 1)) r) (d : Nat) :
    ∀ j : Int, 0 ≤ j → j ≤ w.length → (w.length : Int) - j = d → Ev (fun k => flagstonelaw10_GraphAfter.l1 k l x o i w j) r := by
  induction d with
  | zero =>
    intro j g0 g1 hd
    refine Ev.step (fun k => ?_) hnext
    simp only [flagstonelaw10_GraphAfter.l1]
    rw [if_neg (by omega), wrap_next h0 hi (by omega)]
  | succ d ih =>
    intro j g0 g1 hd
    have hlt : j < (w.length : Int) := by omega
    refine Ev.step (f := fun k => (flagstoneref1_Has.f k (o.take (i : Int).toNat) (rdOf ByteArray.empty w j)).bind fun t170 => (if t170 = true then (flagstonelaw10_GraphAfter.l1 k l x o i w (j + 1)) else (none))) (fun k => ?_) ?_
    · simp only [flagstonelaw10_GraphAfter.l1]
      rw [if_pos hlt, if_pos h0, if_pos (by omega), if_pos g0, wrap_next g0 hlt (by omega)]
    · refine Ev.bind (has_yes (by simp; omega) (hm _ (rdS_mem g0 hlt))) ?_
      simp only [if_true]
      exact ih (j + 1) (by omega) (by omega) (by omega)
theorem after_loop (l : List ByteArray) (x : List S40) (o : List ByteArray) (hl : l.length ≤ 1000) (hx : x.length ≤ 1000) (ho : o.length ≤ 1000) (hok : okL l) (hke : okE x) (hsub : ∀ y ∈ o, y ∈ l) (hn : o.Nodup) (hord : Ord x o) (d : Nat) :
    ∀ i : Int, 0 ≤ i → i ≤ o.length → (o.length : Int) - i = d → Ev (fun k => flagstonelaw10_GraphAfter.l0 k l x o i) true := by
  induction d with
  | zero =>
    intro i h0 h1 hd
    refine Ev.step (f := fun _ => some true) (fun k => ?_) (Ev.now _)
    simp only [flagstonelaw10_GraphAfter.l0]
    rw [if_neg (by omega)]
  | succ d ih =>
    intro i h0 h1 hd
    have hlt : i < (o.length : Int) := by omega
    have hit : i.toNat < o.length := by omega
    have hrd : rdOf ByteArray.empty o i = o[i.toNat] := by have := rd_getS hit; rwa [Int.toNat_of_nonneg h0] at this
    have hmem : rdOf ByteArray.empty o i ∈ l := hsub _ (rdS_mem h0 hlt)
    have hnot : rdOf ByteArray.empty o i ∉ o.take i.toNat := by
      rw [hrd]
      intro hm
      obtain ⟨j, hj, he⟩ := List.mem_iff_getElem.1 hm
      have hjl : j < o.length ∧ j < i.toNat := by simp at hj; omega
      have e1 : o[j] = o[i.toNat] := by rw [← he]; simp
      have hp := List.nodup_iff_pairwise_ne.1 hn
      rw [List.pairwise_iff_getElem] at hp
      exact hp j i.toNat hjl.1 hit hjl.2 e1
    have hnl := needF_len x (rdOf ByteArray.empty o i)
    have inner := after_inner l x o (needF x (rdOf ByteArray.empty o i)) i h0 hlt ho (by omega) (fun y hy => by
      rw [mem_needF, hrd] at hy
      exact hord.reach hit hy) (ih (i + 1) (by omega) (by omega) (by omega)) _ 0 (by omega) (by omega) (Int.sub_zero _)
    refine Ev.step (f := fun k => (flagstoneref1_Has.f k l (rdOf ByteArray.empty o i)).bind fun t154 => (if t154 = true then ((flagstoneref1_Has.f k (o.take (i : Int).toNat) (rdOf ByteArray.empty o i)).bind fun t160 => (flagstonelaw10_GraphAfter.j2 k l x o i t160)) else (flagstonelaw10_GraphAfter.j2 k l x o i true))) (fun k => ?_) ?_
    · simp only [flagstonelaw10_GraphAfter.l0]
      rw [if_pos hlt, if_pos h0, if_pos (by omega)]
    · refine Ev.bind (has_yes (by omega) hmem) ?_
      simp only [if_true]
      refine Ev.bind (has_no (by simp; omega) hnot) ?_
      refine Ev.step (fun k => ?_) inner
      simp only [flagstonelaw10_GraphAfter.j2]
      rw [if_neg (by simp), if_pos h0, if_pos hlt, needs_f (by omega) hke (hok _ hmem)]
      rfl
theorem GraphAfter : flagstonelaw10_GraphAfter.Pure := by
  intro a0 a1 l2 w0 w1 _ _ hc
  have hl := nodesF_len a0 a1
  have hok := nodesF_ok a0 a1
  have hnd := nodesF_nodup a0 a1
  have hnf := nodes_f w0 w1
  generalize nodesF a0 a1 = l at hl hok hnd hnf
  obtain ⟨x, hx, hm, hxl⟩ := edges_ev l l2 false (by omega) hc
  have hof := order_f (by omega) hok (by omega) (hm.ok hok)
  have hend := orderF_ends hnd hm.in_
  rcases hend with ⟨e1, e2, e3, e4, e5⟩ | ⟨_, y, _, hy⟩
  · generalize orderF l x = o at e1 e2 e3 e4 e5 hof
    obtain ⟨o1, o2⟩ := o
    simp only at e1 e2 e3 e4 e5
    subst e1
    refine Ev.rounds (r := true) ?_
    refine Ev.congr (f := fun k => (flagstonelaw10_awake.f k).bind fun t142 => (if t142 = true then ((flagstonelaw10_edges.f k l l2 false).bind fun t146 => ((graph_Order.f l t146).bind fun bt149 => (if bt149.2 = 0 then (flagstonelaw10_GraphAfter.j0 k l t146 bt149.1 ((bt149.1.length : Int) != (l.length : Int))) else (flagstonelaw10_GraphAfter.j0 k l t146 bt149.1 true)))) else none)) (fun k => ?_) ?_
    · unfold flagstonelaw10_GraphAfter.f
      rw [hnf]
      rfl
    · refine Ev.bind awake_ev ?_
      simp only [if_true]
      refine Ev.bind hx ?_
      rw [hof]
      simp only [Option.bind_some, if_true]
      refine Ev.step (fun k => ?_) (after_loop l x o1 (by omega) (by omega) (by omega) hok (hm.ok hok) e4 e3 e5 o1.length 0 (by omega) (by omega) (by omega))
      simp only [flagstonelaw10_GraphAfter.j0]
      rw [if_neg (by simp [e2])]
  · exact absurd (down_reach (hm.down rfl) hy) (ltS_irrefl _)
end Go.Proofs.Ytkmcepeejleahaa.Pure
