/-
  slices.Sorted(slices.Values(l)): a new row that holds l in ascending order, each as often as in l. A condition: l's length.
-/
import Derived.Test.YtkmcepeejleahaaG2
import Derived.Test.YtkmcepeejleahaaS
namespace Go.Proofs.Ytkmcepeejleahaa.Q
open Go.RowKit Go.Proofs.YtkmcepeejleahaaW.PrintWords Go.Proofs.YtkmcepeejleahaaW.PrintLast Go.Proofs.Ytkmcepeejleahaa.M
set_option linter.unusedVariables false

def sortL (zs : List ByteArray) : List ByteArray := sb ((bs zs).mergeSort fun x y => decide (x ≤ y))
/-- a row of strings, as the iterator reads it -/
theorem strs_of_C {w : World} {A : Option Addr} {l : List ByteArray} (h : Kd.C Kd.string w A l.length l) (c : Nat) : G.Strs w.heap.size w (.slice A l.length c) l := by
  refine ⟨A, c, rfl, fun h0 => ?_⟩
  obtain ⟨ad, rfl, hc⟩ := h.2.2 h0
  have each : ∀ j, j < l.length → w.cell? (ad.add j) = some (.string (l[j]?.getD ByteArray.empty)) := by
    intro j hj
    obtain ⟨c, hl, hK, hcell⟩ := hc j _ (List.getElem?_eq_getElem hj)
    have e : c = [.string l[j]] := hK
    rw [List.getElem?_eq_getElem hj]
    have := hcell 0 (.string l[j]) (by rw [e]; rfl)
    simpa [Kd.string, Kd.scalar] using this
  exact ⟨ad, rfl, by have := World.block_lt_of_cell? w _ (each 0 h0); rwa [Go.ChangeShapes.block_add] at this, each⟩

theorem values_calls (A : Option Addr) (len cap : Nat) (w : World) :
    Calls Try.prog 23 #[.slice A len cap] w fun e w' => e = .returned (.func (.func 38) #[] #[.pointer (some ⟨w.heap.size, 0, none⟩)]) ∧ w' = w.alloc (.cells #[.slice A len cap] 23) :=
  (callsIn_wide (n := 4)).1 (G.values_in Fence.wide 4 trivial rfl A len cap w)
theorem collect_calls (Bs : Nat) (sv : Value) (zs : List ByteArray) (hlen : zs.length ≤ 1000000000) (w : World) (hBs : Bs < w.heap.size) (hc : w.cell? ⟨Bs, 0, none⟩ = some sv) (hI : G.Strs w.heap.size w sv zs) :
    Calls Try.prog 37 #[.func (.func 38) #[] #[.pointer (some ⟨Bs, 0, none⟩)]] w fun e w' => ∃ v, e = .returned v ∧ Kd.R Kd.string 9 w' w.heap.size (fun _ => True) v zs ∧ Below w.heap.size w w' := by
  refine ((callsIn_wide (n := 5)).1 (G.collect_in Fence.wide 5 trivial trivial trivial rfl (by omega) Bs sv zs (by unfold maxLen; omega) (by omega) w hBs hc hI)).mono ?_
  rintro e w' ⟨v, rfl, hrow, _, hb⟩
  exact ⟨v, rfl, Kd.R_of_own hrow (fun _ _ => trivial), hb⟩
set_option maxHeartbeats 1000000 in
theorem sorted_calls (Bs : Nat) (sv : Value) (zs : List ByteArray) (hlen : zs.length ≤ 1000000000) (w : World) (hBs : Bs < w.heap.size) (hc : w.cell? ⟨Bs, 0, none⟩ = some sv) (hI : G.Strs w.heap.size w sv zs) :
    Calls Try.prog 22 #[.func (.func 38) #[] #[.pointer (some ⟨Bs, 0, none⟩)]] w fun e w' => ∃ v, e = .returned v ∧ Kd.R Kd.string 9 w' w.heap.size (fun _ => True) v (sortL zs) ∧ Below w.heap.size w w' := by
  have c1 := collect_calls Bs sv zs hlen w hBs hc hI
  clear hc hI
  go_enter Try.func22, Try.ntmps22
  go_wp2_with (first | (go_at_call 37; refine c1.mono ?_; rintro e w1 ⟨v, rfl, hr, hb⟩; have HR := Aside0.mk hr; have HB := Aside0.mk hb; clear hr hb) | (go_at_call 35; refine (sort_row v zs _ w.heap.size (fun _ => True) HR.out hlen).mono ?_; rintro e w2 ⟨rfl, hr, hg⟩; have HR2 := Aside0.mk hr; have HB2 := Aside0.mk (HB.out.grown hg HB.out.size (fun k e => Kd.R_base HR.out k e)); clear hr hg))
  go_ret
  exact ⟨v, rfl, HR2.out, HB2.out⟩
end Go.Proofs.Ytkmcepeejleahaa.Q
