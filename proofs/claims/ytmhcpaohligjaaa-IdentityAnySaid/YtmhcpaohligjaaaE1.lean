/-
  What the printed helpers answer: Same, SameLinks, Ids; the example of the chapter. No condition.
-/
import Derived.Test.YtmhcpaohligjaaaQ3
import Derived.Test.YtmhcpaohligjaaaT2
import Derived.Test.YtmhcpaohligjaaaT3
namespace Go.Proofs.Ytmhcpaohligjaaa.Q
open Go.RowKit Go.Proofs.YtmhcpaohligjaaaW.PrintWords Go.Proofs.YtmhcpaohligjaaaW.PrintLast Go.Proofs.Ytmhcpaohligjaaa.M
set_option linter.unusedVariables false

theorem wrap_next {i : Int} {n : Nat} (h0 : 0 ≤ i) (h : i < n) (hn : n ≤ 1000000000) : wrap64 (i + 1) = i + 1 := by
  unfold wrap64
  omega
theorem same_loop (a : List ByteArray) (hn : a.length ≤ 1000000000) (d : Nat) : ∀ i : Int, 0 ≤ i → i ≤ a.length → (a.length : Int) - i = d → Ev (fun k => flagstoneref1_Same.l0 k a a i) true := by
  induction d with
  | zero =>
    intro i h0 h1 hd
    refine Ev.step (f := fun _ => some true) (fun k => ?_) (Ev.now true)
    simp only [flagstoneref1_Same.l0]
    rw [if_neg (by omega)]
  | succ d ih =>
    intro i h0 h1 hd
    have hlt : i < (a.length : Int) := by omega
    refine Ev.step (f := fun k => flagstoneref1_Same.l0 k a a (i + 1)) (fun k => ?_) (ih (i + 1) (by omega) (by omega) (by omega))
    simp only [flagstoneref1_Same.l0]
    rw [if_pos hlt, if_pos h0, if_pos hlt, wrap_next h0 hlt hn]
    simp
theorem same_ev (a : List ByteArray) (hn : a.length ≤ 1000000000) : Ev (fun k => flagstoneref1_Same.f k a a) true := by
  refine Ev.congr (f := fun k => flagstoneref1_Same.l0 k a a 0) (fun k => ?_) (same_loop a hn a.length 0 (by omega) (by omega) (by omega))
  unfold flagstoneref1_Same.f
  rw [if_pos rfl]
theorem links_loop (a : List S28) (hn : a.length ≤ 1000000000) (d : Nat) : ∀ i : Int, 0 ≤ i → i ≤ a.length → (a.length : Int) - i = d → Ev (fun k => flagstoneref26_SameLinks.l0 k a a i) true := by
  induction d with
  | zero =>
    intro i h0 h1 hd
    refine Ev.step (f := fun _ => some true) (fun k => ?_) (Ev.now true)
    simp only [flagstoneref26_SameLinks.l0]
    rw [if_neg (by omega)]
  | succ d ih =>
    intro i h0 h1 hd
    have hlt : i < (a.length : Int) := by omega
    refine Ev.step (f := fun k => flagstoneref26_SameLinks.l0 k a a (i + 1)) (fun k => ?_) (ih (i + 1) (by omega) (by omega) (by omega))
    simp only [flagstoneref26_SameLinks.l0]
    rw [if_pos hlt, if_pos h0, if_pos hlt, wrap_next h0 hlt hn]
    simp
theorem links_ev (a : List S28) (hn : a.length ≤ 1000000000) : Ev (fun k => flagstoneref26_SameLinks.f k a a) true := by
  refine Ev.congr (f := fun k => flagstoneref26_SameLinks.l0 k a a 0) (fun k => ?_) (links_loop a hn a.length 0 (by omega) (by omega) (by omega))
  unfold flagstoneref26_SameLinks.f
  rw [if_pos rfl]
end Go.Proofs.Ytmhcpaohligjaaa.Q
