/-
  No cell of these rows narrows 'for every input' (looked for: loops, veiled, ifaces, maps, wideKeys, modest, calm, conditions, laid).
  DERIVED. THE GIVEN ROWS OF THIS SEAT. 4 by the template 'for every input the law returns true; each argument reads behind the call as it read before'; 0 by the template 'total and deterministic' (their statements: YtkmcepeejleahaaTotals.lean).
  GIVEN WITH THE SEED: the statements are not yours to turn. If you find one false, say at which input.
  Laid BY PROGRAM, IN A SANDBOX (cutbox-rows.mjs): the forced cells as the released guide's own fill.sh prints them over the translation c3424e69b9cde689… (all of the seat's roots in one cut). By AI agents, Wed Nov 11 2026. No macro, syntax, notation, axiom, sorry.
-/
import Derived.Test.YtkmcepeejleahaaChecked
import GoSem.Claim
import GoSem.ClaimJoined
import GoSem.ClaimMapViews
import Derived.JoinedTies
import Derived.KernelRfl
namespace Go.Proofs.Ytkmcepeejleahaa
/- THE CELL 'sum', in the pinned program and in every row, IS THE sha256 OF THE DUMP (.gsa) THAT YtkmcepeejleahaaProg.lean LOADS. Nothing in Lean hashes anything: it is a label: what it is worth is what the hold of that sum in a sandbox is worth. -/
noncomputable def Try.pinned : Pinned := { name := "ytkmcepeejleahaa", sum := "c3424e69b9cde68982789120dc8863704afdb535f2b02b83720d679b86b1bfa9", checked := Try.checked }
namespace Rows
def none {H : Type} : Left H := { results := [], args := [] }

/-- 'flagstonelaw10.GraphOrders': WHATEVER THE INPUT: true; the input reads as it did. -/
def graphOrdersSpec : ChangeSpec := { name := "graphOrders", fn := fun _ => fun
  | [d1, d2, d3, d4, d5, d6] => { results := [.lit (.bool true)], args := [d1, d2, d3, d4, d5, d6] }
  | _ => none }
def graphOrdersRow : OpenClaim := { program := "ytkmcepeejleahaa", sum := "c3424e69b9cde68982789120dc8863704afdb535f2b02b83720d679b86b1bfa9", func := "flagstone/flagstonelaw10.GraphOrders", spec := "graphOrders", unfollowed := true, recurses := true, apart := false }
def GraphOrdersSaid : Prop := graphOrdersRow.holds Try.pinned (OpenSpec.ofChange graphOrdersSpec)

/-- ITS FALSE NEIGHBOUR: 'it returns false'. Refute it at one input. -/
def graphOrdersWrong : ChangeSpec := { name := "graphOrders", fn := fun _ => fun
  | [d1, d2, d3, d4, d5, d6] => { results := [.lit (.bool false)], args := [d1, d2, d3, d4, d5, d6] }
  | _ => none }
def GraphOrdersWrongFalsely : Prop := graphOrdersRow.holds Try.pinned (OpenSpec.ofChange graphOrdersWrong)

/-- 'flagstonelaw10.GraphAfter': WHATEVER THE INPUT: true; the input reads as it did. -/
def graphAfterSpec : ChangeSpec := { name := "graphAfter", fn := fun _ => fun
  | [d1, d2, d3] => { results := [.lit (.bool true)], args := [d1, d2, d3] }
  | _ => none }
def graphAfterRow : OpenClaim := { program := "ytkmcepeejleahaa", sum := "c3424e69b9cde68982789120dc8863704afdb535f2b02b83720d679b86b1bfa9", func := "flagstone/flagstonelaw10.GraphAfter", spec := "graphAfter", unfollowed := true, recurses := true, apart := false }
def GraphAfterSaid : Prop := graphAfterRow.holds Try.pinned (OpenSpec.ofChange graphAfterSpec)

/-- ITS FALSE NEIGHBOUR: 'it returns false'. Refute it at one input. -/
def graphAfterWrong : ChangeSpec := { name := "graphAfter", fn := fun _ => fun
  | [d1, d2, d3] => { results := [.lit (.bool false)], args := [d1, d2, d3] }
  | _ => none }
def GraphAfterWrongFalsely : Prop := graphAfterRow.holds Try.pinned (OpenSpec.ofChange graphAfterWrong)

/-- 'flagstonelaw10.GraphCycles': WHATEVER THE INPUT: true; the input reads as it did. -/
def graphCyclesSpec : ChangeSpec := { name := "graphCycles", fn := fun _ => fun
  | [d1, d2, d3, d4] => { results := [.lit (.bool true)], args := [d1, d2, d3, d4] }
  | _ => none }
def graphCyclesRow : OpenClaim := { program := "ytkmcepeejleahaa", sum := "c3424e69b9cde68982789120dc8863704afdb535f2b02b83720d679b86b1bfa9", func := "flagstone/flagstonelaw10.GraphCycles", spec := "graphCycles", unfollowed := true, recurses := true, apart := false }
def GraphCyclesSaid : Prop := graphCyclesRow.holds Try.pinned (OpenSpec.ofChange graphCyclesSpec)

/-- ITS FALSE NEIGHBOUR: 'it returns false'. Refute it at one input. -/
def graphCyclesWrong : ChangeSpec := { name := "graphCycles", fn := fun _ => fun
  | [d1, d2, d3, d4] => { results := [.lit (.bool false)], args := [d1, d2, d3, d4] }
  | _ => none }
def GraphCyclesWrongFalsely : Prop := graphCyclesRow.holds Try.pinned (OpenSpec.ofChange graphCyclesWrong)

/-- 'flagstonelaw10.GraphNeeds': WHATEVER THE INPUT: true; the input reads as it did. -/
def graphNeedsSpec : ChangeSpec := { name := "graphNeeds", fn := fun _ => fun
  | [d1, d2, d3, d4, d5, d6] => { results := [.lit (.bool true)], args := [d1, d2, d3, d4, d5, d6] }
  | _ => none }
def graphNeedsRow : OpenClaim := { program := "ytkmcepeejleahaa", sum := "c3424e69b9cde68982789120dc8863704afdb535f2b02b83720d679b86b1bfa9", func := "flagstone/flagstonelaw10.GraphNeeds", spec := "graphNeeds", unfollowed := true, recurses := true, apart := false }
def GraphNeedsSaid : Prop := graphNeedsRow.holds Try.pinned (OpenSpec.ofChange graphNeedsSpec)

/-- ITS FALSE NEIGHBOUR: 'it returns false'. Refute it at one input. -/
def graphNeedsWrong : ChangeSpec := { name := "graphNeeds", fn := fun _ => fun
  | [d1, d2, d3, d4, d5, d6] => { results := [.lit (.bool false)], args := [d1, d2, d3, d4, d5, d6] }
  | _ => none }
def GraphNeedsWrongFalsely : Prop := graphNeedsRow.holds Try.pinned (OpenSpec.ofChange graphNeedsWrong)

/- THE SECOND FORM. 'bulk': how many values and letters a reading holds, each counted each time it is reached (what is shared counts as often as it is met; a slice's spare places count too). A statement '..UptoSaid' is the law's where the arguments, and the package variables that the reading takes, are together of bulk at most 1048576: NARROWER than '..Said'. Prove '..Said' where nothing that the law and all that it calls make is longer than what came in: it says more and counts as full. Else prove '..UptoSaid'. A law counts once. -/
mutual
def uptoBulk {H : Type} : DataW H → Nat
  | .lit (.string bytes) => bytes.length + 1
  | .lit _ => 1
  | .nil => 1
  | .ptr d => uptoBulk d + 1
  | .slice elems spare => uptoBulkAll elems + uptoBulkAll spare + 1
  | .agg parts => uptoBulkAll parts + 1
  | .iface _ d => uptoBulk d + 1
  | .map entries => uptoBulkEntries entries + 1
  | .held _ => 1
def uptoBulkAll {H : Type} : List (DataW H) → Nat
  | [] => 0
  | d :: r => uptoBulk d + uptoBulkAll r
def uptoBulkEntries {H : Type} : List (Lit × DataW H) → Nat
  | [] => 0
  | x :: r => uptoBulkEntry x + uptoBulkEntries r
def uptoBulkEntry {H : Type} : Lit × DataW H → Nat
  | (.string bytes, d) => bytes.length + uptoBulk d + 1
  | (_, d) => uptoBulk d + 1
 end
def uptoSmall : (H : Type) → List (DataW H) → Bool := fun _ ds => decide (uptoBulkAll ds ≤ 1048576)
def OpenSpec.upto (s : _root_.Go.ChangeSpec) : _root_.Go.OpenSpec := { _root_.Go.OpenSpec.ofChange s with cond := some uptoSmall }

/-- 'flagstonelaw10.GraphOrders', WHERE WHAT IT READS IS OF BULK AT MOST 1048576: true; the input reads as it did. -/
def graphOrdersUptoRow : OpenClaim := { program := "ytkmcepeejleahaa", sum := "c3424e69b9cde68982789120dc8863704afdb535f2b02b83720d679b86b1bfa9", func := "flagstone/flagstonelaw10.GraphOrders", spec := "graphOrders", unfollowed := true, recurses := true, apart := false, narrowed := true }
def GraphOrdersUptoSaid : Prop := graphOrdersUptoRow.holds Try.pinned (OpenSpec.upto graphOrdersSpec)

/-- 'flagstonelaw10.GraphAfter', WHERE WHAT IT READS IS OF BULK AT MOST 1048576: true; the input reads as it did. -/
def graphAfterUptoRow : OpenClaim := { program := "ytkmcepeejleahaa", sum := "c3424e69b9cde68982789120dc8863704afdb535f2b02b83720d679b86b1bfa9", func := "flagstone/flagstonelaw10.GraphAfter", spec := "graphAfter", unfollowed := true, recurses := true, apart := false, narrowed := true }
def GraphAfterUptoSaid : Prop := graphAfterUptoRow.holds Try.pinned (OpenSpec.upto graphAfterSpec)

/-- 'flagstonelaw10.GraphCycles', WHERE WHAT IT READS IS OF BULK AT MOST 1048576: true; the input reads as it did. -/
def graphCyclesUptoRow : OpenClaim := { program := "ytkmcepeejleahaa", sum := "c3424e69b9cde68982789120dc8863704afdb535f2b02b83720d679b86b1bfa9", func := "flagstone/flagstonelaw10.GraphCycles", spec := "graphCycles", unfollowed := true, recurses := true, apart := false, narrowed := true }
def GraphCyclesUptoSaid : Prop := graphCyclesUptoRow.holds Try.pinned (OpenSpec.upto graphCyclesSpec)

/-- 'flagstonelaw10.GraphNeeds', WHERE WHAT IT READS IS OF BULK AT MOST 1048576: true; the input reads as it did. -/
def graphNeedsUptoRow : OpenClaim := { program := "ytkmcepeejleahaa", sum := "c3424e69b9cde68982789120dc8863704afdb535f2b02b83720d679b86b1bfa9", func := "flagstone/flagstonelaw10.GraphNeeds", spec := "graphNeeds", unfollowed := true, recurses := true, apart := false, narrowed := true }
def GraphNeedsUptoSaid : Prop := graphNeedsUptoRow.holds Try.pinned (OpenSpec.upto graphNeedsSpec)

end Rows
end Go.Proofs.Ytkmcepeejleahaa
