/-
  Texts compared: the order of strings, and '<=', '>', '>=' of them as the walk meets them. No condition.
-/
import Derived.Test.YtkmcepeejleahaaT
import Derived.Laws.Strings
namespace Go.Proofs.Ytkmcepeejleahaa.Q
open Go.RowKit Go.Proofs.YtkmcepeejleahaaW.PrintWords Go.Proofs.YtkmcepeejleahaaW.PrintLast Go.Proofs.Ytkmcepeejleahaa.M
set_option linter.unusedVariables false

instance (x y : ByteArray) : Decidable (ltS x y) := by unfold ltS; infer_instance
theorem toList_inj {a b : ByteArray} (h : a.toList = b.toList) : a = b := by
  rw [Lib.toList_data, Lib.toList_data] at h
  cases a; cases b; simp at h; rw [h]
theorem toList_beq (x y : ByteArray) : (x.toList == y.toList) = eqS x y := by
  rw [Bool.eq_iff_iff, beq_iff_eq, eqS_iff]
  exact ⟨toList_inj, fun h => by rw [h]⟩
theorem less_eq (x y : ByteArray) : Op.bytesLess x.toList y.toList = decide (ltS x y) := by
  rw [bytesLess_eq, Lib.toList_data, Lib.toList_data]
  rfl
theorem less_true {x y : ByteArray} (h : ltS x y) : Op.bytesLess x.toList y.toList = true := by rw [less_eq]; exact decide_eq_true h
theorem less_false {x y : ByteArray} (h : ¬ ltS x y) : Op.bytesLess x.toList y.toList = false := by rw [less_eq]; exact decide_eq_false h
theorem leq_not (x y : ByteArray) : (Op.bytesLess x.toList y.toList || x.toList == y.toList) = !Op.bytesLess y.toList x.toList := by
  rw [less_eq, less_eq, toList_beq]
  rcases ltS_total x y with h | rfl | h
  · rw [decide_eq_true h, decide_eq_false (ltS_asymm h)]; rfl
  · rw [decide_eq_false (ltS_irrefl x), eqS_iff.2 rfl]; rfl
  · rw [decide_eq_true h, decide_eq_false (ltS_asymm h), show eqS x y = false from by cases hc : eqS x y with | false => rfl | true => exact absurd (eqS_iff.1 hc) (fun e => ltS_irrefl x (by rw [e] at h; rw [e]; exact h))]; rfl
theorem binOp_leq_not (t : TypeId) (a b : ByteArray) : binOp .leq t (.string a) (.string b) = pure (.bool !(Op.bytesLess b.toList a.toList)) := by
  rw [← leq_not]; simp [binOp, Op.stringOp]
theorem binOp_gtr_not (t : TypeId) (a b : ByteArray) : binOp .gtr t (.string a) (.string b) = pure (.bool (Op.bytesLess b.toList a.toList)) := by
  rw [show Op.bytesLess b.toList a.toList = !(!Op.bytesLess b.toList a.toList) by simp, ← leq_not]; simp [binOp, Op.stringOp]
theorem binOp_geq_not (t : TypeId) (a b : ByteArray) : binOp .geq t (.string a) (.string b) = pure (.bool !(Op.bytesLess a.toList b.toList)) := by
  simp [binOp, Op.stringOp]
end Go.Proofs.Ytkmcepeejleahaa.Q
