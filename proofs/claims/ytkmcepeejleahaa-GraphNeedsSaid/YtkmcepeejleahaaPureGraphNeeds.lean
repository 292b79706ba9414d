/-
  GraphNeeds answers true at every input. A condition: texts no longer than a text can be.
-/
import Derived.Test.YtkmcepeejleahaaQ13
import Derived.Test.YtkmcepeejleahaaL1
namespace Go.Proofs.Ytkmcepeejleahaa.Pure
open Go.RowKit Go.Proofs.Ytkmcepeejleahaa.Q Go.Proofs.YtkmcepeejleahaaW.PrintWords Go.Proofs.YtkmcepeejleahaaW.PrintLast

theorem cycF_len (zs : List ByteArray) (es : List S40) : (cycF zs es).length ≤ zs.length := Nat.le_trans (List.length_filter_le _ _) (sortD_length zs)
theorem needs_loop (raw : ByteArray) (l : List ByteArray) (x : List S40) (hl : l.length ≤ 100) (hx : x.length ≤ 100) (hok : okL l) (hraw : okS raw) (hke : okE x) (d : Nat) : ∀ i : Int, 0 ≤ i → i ≤ l.length → (l.length : Int) - i = d → Ev (fun k => flagstonelaw10_GraphNeeds.l0 k raw l x i) true := by
  induction d with
  | zero =>
    intro i h0 h1 hd
    have hok2 : okL (l ++ [raw, raw]) := fun z hz => by
      rcases List.mem_append.1 hz with e | e
      · exact hok z e
      · simp at e; rw [e]; exact hraw
    refine Ev.step (f := fun k => (flagstoneref9_Needs.f k x raw).bind fun t335 => ((flagstoneref1_Same.f k (needF x raw) t335).bind fun t338 => (if t338 = true then ((flagstoneref9_Cyclic.f k l x).bind fun t342 => ((flagstoneref1_Same.f k (cycF l x) t342).bind fun t345 => (if t345 = true then ((flagstoneref9_Cyclic.f k (l ++ [raw, raw]) x).bind fun t349 => ((flagstoneref1_Same.f k (cycF (l ++ [raw, raw]) x) t349).bind fun t352 => (some t352))) else none))) else none))) (fun k => ?_) ?_
    · simp only [flagstonelaw10_GraphNeeds.l0]
      rw [if_neg (by omega), if_pos (by simp; omega)]
      simp only [List.nil_append, Option.bind_some]
      rw [if_pos (by simp; omega), needs_f (by omega) hke hraw, cyclic_f (by omega) hok (by omega) hke, cyclic_f (by simp; omega) hok2 (by omega) hke]
      rfl
    · refine Ev.bind (needF_ev x raw (by omega)) (Ev.bind (same_ev _ (by have := needF_len x raw; omega)) ?_)
      simp only [if_true]
      refine Ev.bind (cyc_ev l x (by omega) (by omega)) (Ev.bind (same_ev _ (by have := cycF_len l x; omega)) ?_)
      simp only [if_true]
      exact Ev.bind (cyc_ev _ x (by simp; omega) (by omega)) (Ev.bind (same_ev _ (by have := cycF_len (l ++ [raw, raw]) x; simp at this; omega)) (Ev.now _))
  | succ d ih =>
    intro i h0 h1 hd
    have hlt : i < (l.length : Int) := by omega
    have hmem := rdS_mem h0 hlt
    refine Ev.step (f := fun k => (flagstoneref9_Needs.f k x (rdOf ByteArray.empty l i)).bind fun t319 => ((flagstoneref1_Same.f k (needF x (rdOf ByteArray.empty l i)) t319).bind fun t322 => (if t322 = true then (flagstonelaw10_GraphNeeds.l0 k raw l x (i + 1)) else (none)))) (fun k => ?_) ?_
    · simp only [flagstonelaw10_GraphNeeds.l0]
      rw [if_pos hlt, if_pos h0, needs_f (by omega) hke (hok _ hmem), wrap_next h0 hlt (by omega)]
      rfl
    · refine Ev.bind (needF_ev x _ (by omega)) (Ev.bind (same_ev _ (by have := needF_len x (rdOf ByteArray.empty l i); omega)) ?_)
      simp only [if_true]
      exact ih (i + 1) (by omega) (by omega) (by omega)
theorem GraphNeeds (a0 a1 : Int) (l2 : List Int) (a3 : Bool) (a4 : ByteArray) (l5 : List S40) (w0 : (Lit.int .i64 a0).wf = true) (w1 : (Lit.int .i64 a1).wf = true) (hc : ∀ x ∈ l2, (Lit.int .u8 x).wf = true) (h4 : okS a4) (h5 : okE l5) : ∃ k, flagstonelaw10_GraphNeeds.f k a0 a1 l2 a3 a4 l5 = some true := by
  have hl := nodesF_len a0 a1
  have hok := nodesF_ok a0 a1
  have hnf := nodes_f w0 w1
  generalize nodesF a0 a1 = l at hl hok hnf
  obtain ⟨x, hx, hm, hxl⟩ := edges_ev l l2 a3 (by omega) hc
  have hke := hm.ok hok
  refine Ev.rounds (r := true) ?_
  by_cases hlen : (l5.length : Int) > 30
  · refine Ev.congr (f := fun k => (flagstonelaw10_awake.f k).bind fun t304 => (if t304 = true then some true else none)) (fun k => ?_) (Ev.bind awake_ev (by simp only [if_true]; exact Ev.now _))
    unfold flagstonelaw10_GraphNeeds.f
    rw [if_pos hlen]
  · have hke2 : okE (x ++ l5) := fun e he => by
      rcases List.mem_append.1 he with e1 | e1
      · exact hke e e1
      · exact h5 e e1
    refine Ev.congr (f := fun k => (flagstonelaw10_awake.f k).bind fun t304 => (if t304 = true then ((flagstonelaw10_edges.f k l l2 a3).bind fun t308 => (if t308.length + l5.length < 4398046511104 then (flagstonelaw10_GraphNeeds.l0 k a4 l (t308 ++ l5) 0) else (none))) else none)) (fun k => ?_) ?_
    · unfold flagstonelaw10_GraphNeeds.f
      rw [if_neg hlen, hnf]
      rfl
    · refine Ev.bind awake_ev ?_
      simp only [if_true]
      refine Ev.bind hx ?_
      refine Ev.congr (f := fun k => flagstonelaw10_GraphNeeds.l0 k a4 l (x ++ l5) 0) (fun k => by rw [if_pos (by omega)]) ?_
      exact needs_loop a4 l (x ++ l5) (by omega) (by simp; omega) hok h4 hke2 l.length 0 (by omega) (by omega) (by omega)
end Go.Proofs.Ytkmcepeejleahaa.Pure
