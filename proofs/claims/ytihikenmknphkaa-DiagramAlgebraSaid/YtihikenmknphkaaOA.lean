/-
  Diagrams: the walk of DiagramOperations. No condition beyond those that stand in it.
-/
import Derived.Test.YtihikenmknphkaaA2
import Derived.Test.YtihikenmknphkaaSA
namespace Go.Proofs.Ytihikenmknphkaa.Q
open Go Go.RowKit Go.Maps Go.Proofs.YtihikenmknphkaaW.PrintWords Go.Proofs.YtihikenmknphkaaW.PrintLast Go.Proofs.YtihikenmknphkaaW.PrintMore Go.Proofs.Ytihikenmknphkaa.M
set_option linter.unusedVariables false
set_option linter.unusedSimpArgs false

theorem bytes_wf {l : List Int} (h : ∀ x ∈ l, (Lit.int .u8 x).wf = true) : bytesL l := fun x hx => by
  have := h x hx
  simp [Lit.wf, IntKind.min, IntKind.max, IntKind.signed, IntKind.bits] at this
  omega
set_option maxRecDepth 100000 in
set_option maxHeartbeats 4000000 in
theorem operations_calls (w : World) (A0 : Option Addr) (c0 : Nat) (l0 : List Int) (hr0 : Kd.C (Kd.int .u8) w A0 l0.length l0) (hc0 : l0.length ≤ c0) (hby : bytesL l0) :
    Calls Try.prog 6 #[.slice A0 l0.length c0] w fun e w' => e = .returned (.bool true) ∧ Below w.heap.size w w' := by
  have HR := Aside0.mk hr0
  have HC := Aside0.mk hc0
  have HY := Aside0.mk hby
  clear hr0 hc0 hby
  go_enter Try.func6, Try.ntmps6
  go_wp2_with (first
    | (go_at_call 9; refine (awake_calls w).mono ?_; rintro e w1 ⟨rfl, hb⟩; have HB := Aside0.mk hb; clear hb)
    | (go_at_call 10; refine (made_calls w w1 A0 c0 l0 120 HB.out HR.out HC.out HY.out (by omega) (by omega)).mono ?_; rintro e w2 ⟨G, S, S', A, c, ns, all, rfl, hm, hs, hv, h1, hl, hb⟩; have HM := Aside0.mk hm; have HB2 := Aside0.mk hb; have q3 := hm.c3; clear hm hs hv h1 hl hb))
  go_ret
  exact ⟨rfl, HB2.out⟩
end Go.Proofs.Ytihikenmknphkaa.Q
