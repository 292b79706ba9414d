/-
  GraphCycles answers true at every input. No condition.
-/
import Derived.Test.YtkmcepeejleahaaQ6
import Derived.Test.YtkmcepeejleahaaL1
namespace Go.Proofs.Ytkmcepeejleahaa.Pure
open Go.RowKit Go.Proofs.Ytkmcepeejleahaa.Q Go.Proofs.YtkmcepeejleahaaW.PrintWords Go.Proofs.YtkmcepeejleahaaW.PrintLast

/-- the list turned, half way: the last i are laid -/
def turned (x : List S40) (i : Nat) : List S40 := List.replicate (x.length - i) z40 ++ (x.take i).reverse
theorem turned_len (x : List S40) {i : Nat} (h : i ≤ x.length) : (turned x i).length = x.length := by unfold turned; simp; omega
theorem turned_set (x : List S40) {i : Nat} (h : i < x.length) : (turned x i).set (x.length - 1 - i) x[i] = turned x (i + 1) := by
  unfold turned
  have e : x.length - i = (x.length - (i + 1)) + 1 := by omega
  rw [e, List.replicate_succ', List.append_assoc, List.set_append_right _ _ (by simp; omega)]
  have e2 : x.length - 1 - i - (List.replicate (x.length - (i + 1)) z40).length = 0 := by simp; omega
  rw [e2]
  rw [show x.take (i + 1) = x.take i ++ [x[i]] from List.take_succ_eq_append_getElem h, List.reverse_append]
  rfl
theorem turned_all (x : List S40) : turned x x.length = x.reverse := by unfold turned; simp
theorem cyc_loop (a0 a2 : Int) (x : List S40) (o : List ByteArray) (e : Int) (c : List ByteArray) (hx : x.length ≤ 1000) {r : Bool}
    (hfin : Ev (fun k => flagstonelaw10_GraphCycles.l0 k a0 a2 x o e c x.reverse (x.length : Int) (x.length : Int)) r) (d : Nat) :
    ∀ i : Nat, i ≤ x.length → x.length - i = d → Ev (fun k => flagstonelaw10_GraphCycles.l0 k a0 a2 x o e c (turned x i) (x.length : Int) (i : Int)) r := by
  induction d with
  | zero =>
    intro i h1 hd
    obtain rfl : i = x.length := by omega
    rw [turned_all]
    exact hfin
  | succ d ih =>
    intro i h1 hd
    have hlt : i < x.length := by omega
    refine Ev.step (fun k => ?_) (ih (i + 1) (by omega) (by omega))
    have w1 : wrap64 ((x.length : Int) - 1) = (x.length : Int) - 1 := by unfold wrap64; omega
    have w2 : wrap64 ((x.length : Int) - 1 - i) = ((x.length - 1 - i : Nat) : Int) := by unfold wrap64; omega
    have w3 : wrap64 ((i : Int) + 1) = ((i + 1 : Nat) : Int) := by unfold wrap64; omega
    have hr : rd_T40 x (i : Int) = x[i] := by
      unfold rd_T40
      rw [List.getD_eq_getElem?_getD, Int.toNat_natCast, List.getElem?_eq_getElem hlt]
      rfl
    simp only [flagstonelaw10_GraphCycles.l0]
    rw [if_pos (by omega), if_pos (by omega), if_pos (by omega), w1, w2, if_pos (by omega), if_pos (by rw [turned_len x (by omega)]; omega), w3, hr, Int.toNat_natCast, ← turned_set x hlt]
theorem GraphCycles : flagstonelaw10_GraphCycles.Pure := by
  intro a0 a1 a2 l3 w0 w1 w2 _ _ hc
  have hl := nodesF_len a0 a1
  have hok := nodesF_ok a0 a1
  have hnd := nodesF_nodup a0 a1
  have hnf := nodes_f w0 w1
  have hl2 := nodesF_len a0 a2
  have hok2 := nodesF_ok a0 a2
  have hnd2 := nodesF_nodup a0 a2
  have hnf2 := nodes_f w0 w2
  have hmm := nodesF_mem a0 a1 a2
  generalize nodesF a0 a1 = l at hl hok hnd hnf hmm
  generalize nodesF a0 a2 = p at hl2 hok2 hnd2 hnf2 hmm
  obtain ⟨x, hx, hm, hxl⟩ := edges_ev l l3 true (by omega) hc
  have hke := hm.ok hok
  have hof := order_f (by omega) hok (by omega) hke
  have hkr : okE x.reverse := fun e he => hke e (by simpa using he)
  have hof2 := order_f (l := p) (x := x.reverse) (by omega) hok2 (by simp; omega) hkr
  have hcf := cyclic_f (l := l) (x := x) (by omega) hok (by omega) hke
  have hcg : orderF p x.reverse = orderF l x := (orderF_congr hnd hnd2 hmm (fun e => by simp)).symm
  rw [hcg] at hof2
  have hend := orderF_ends hnd hm.in_
  have hol : (orderF l x).1.length ≤ 1000 := by
    rcases hend with ⟨_, e2, _⟩ | ⟨e, _⟩
    · omega
    · rw [e]; simp
  have hs := same_ev (orderF l x).1 (by omega)
  have hcyc : ((orderF l x).2 = 0 ∧ (cycF l x).length = 0) ∨ ((orderF l x).2 = 12 ∧ 0 < (cycF l x).length) := by
    rcases hend with ⟨e1, e2, e3, e4, e5⟩ | ⟨e, y, hy, hr⟩
    · refine .inl ⟨e1, ?_⟩
      rw [List.length_eq_zero_iff]
      unfold cycF
      rw [List.filter_eq_nil_iff]
      intro z hz hzz
      rw [reachB_iff] at hzz
      rw [mem_sortD] at hz
      have hzo : z ∈ (orderF l x).1 := by
        refine Classical.byContradiction fun hzo => ?_
        have := nodup_le (l := z :: (orderF l x).1) (S := l) (List.nodup_cons.2 ⟨hzo, e3⟩) (fun u hu => by
          rcases List.mem_cons.1 hu with e | e
          · rw [e]; exact hz
          · exact e4 u e)
        simp only [List.length_cons] at this
        omega
      exact e5.acyclic e3 hzo hzz
    · refine .inr ⟨by rw [e], List.length_pos_iff.2 (fun hn => ?_)⟩
      have : y ∈ cycF l x := by
        unfold cycF
        rw [List.mem_filter, mem_sortD, reachB_iff]
        exact ⟨hy, hr⟩
      rw [hn] at this
      simp at this
  generalize orderF l x = o at hof hof2 hol hs hcyc
  generalize cycF l x = c at hcf hcyc
  obtain ⟨o1, o2⟩ := o
  simp only at hof hof2 hol hs hcyc
  have hfin : Ev (fun k => flagstonelaw10_GraphCycles.l0 k a0 a2 x o1 o2 c x.reverse (x.length : Int) (x.length : Int)) true := by
    refine Ev.step (f := fun k => (flagstoneref1_Same.f k o1 o1).bind fun t => some t) (fun k => ?_) (Ev.bind hs (Ev.now _))
    simp only [flagstonelaw10_GraphCycles.l0]
    rw [if_neg (by omega), hnf2]
    simp only [Option.bind_some]
    rw [hof2]
    simp only [Option.bind_some]
    rcases hcyc with ⟨e1, e2⟩ | ⟨e1, e2⟩
    · subst e1
      rw [if_pos rfl, if_pos (by rw [e2]; rfl), if_pos trivial]
    · subst e1
      rw [if_neg (by decide), if_pos rfl, if_pos (by simp [e2]), if_pos trivial]
  have hz : List.replicate (x.length : Int).toNat z40 = turned x 0 := by unfold turned; simp
  refine Ev.rounds (r := true) ?_
  refine Ev.congr (f := fun k => (flagstonelaw10_awake.f k).bind fun t171 => (if t171 = true then ((flagstonelaw10_edges.f k l l3 true).bind fun t175 => ((graph_Order.f l t175).bind fun bt178 => ((graph_Cyclic.f l t175).bind fun t182 => (if 0 ≤ (t175.length : Int) then (if ((t175.length : Int) : Int).toNat ≤ 8796093022208 then (flagstonelaw10_GraphCycles.l0 k a0 a2 t175 bt178.1 bt178.2 t182 (List.replicate ((t175.length : Int) : Int).toNat z40) (t175.length : Int) 0) else (none)) else (none))))) else none)) (fun k => ?_) ?_
  · unfold flagstonelaw10_GraphCycles.f
    rw [hnf]
    rfl
  · refine Ev.bind awake_ev ?_
    simp only [if_true]
    refine Ev.bind hx ?_
    rw [hof]
    simp only [Option.bind_some]
    rw [hcf]
    simp only [Option.bind_some]
    refine Ev.congr (f := fun k => flagstonelaw10_GraphCycles.l0 k a0 a2 x o1 o2 c (turned x 0) (x.length : Int) 0) (fun k => by rw [if_pos (by omega), if_pos (by omega), hz]) ?_
    exact cyc_loop a0 a2 x o1 o2 c (by omega) hfin x.length 0 (by omega) (by omega)
end Go.Proofs.Ytkmcepeejleahaa.Pure
