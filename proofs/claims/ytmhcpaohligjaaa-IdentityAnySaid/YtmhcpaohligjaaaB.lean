/-
  Strings in order: what '<=' of two strings says, by '<' the other way round; '<' as the order of the bytes. No condition.
-/
import Derived.Test.YtmhcpaohligjaaaT2
import Derived.Laws.Strings
namespace Go.Proofs.Ytmhcpaohligjaaa.Q
open Go.RowKit
instance (x y : ByteArray) : Decidable (ltS x y) := by unfold ltS; infer_instance
theorem less_eq (x y : ByteArray) : Op.bytesLess x.toList y.toList = decide (ltS x y) := by
  rw [bytesLess_eq, Lib.toList_data, Lib.toList_data]
  rfl
theorem less_true {x y : ByteArray} (h : ltS x y) : Op.bytesLess x.toList y.toList = true := by rw [less_eq]; exact decide_eq_true h
theorem less_false {x y : ByteArray} (h : ¬ ltS x y) : Op.bytesLess x.toList y.toList = false := by rw [less_eq]; exact decide_eq_false h
theorem leq_not (x y : ByteArray) : (Op.bytesLess x.toList y.toList || x.toList == y.toList) = !Op.bytesLess y.toList x.toList := by
  rw [less_eq, less_eq, toList_beq]
  rcases ltS_total x y with h | rfl | h
  · rw [decide_eq_true h, decide_eq_false (ltS_asymm h)]; rfl
  · rw [decide_eq_false (ltS_irrefl x), sameB_true rfl]; rfl
  · rw [decide_eq_true h, decide_eq_false (ltS_asymm h), sameB_false (fun e => ltS_irrefl x (by rw [e] at h; rw [e]; exact h))]; rfl
theorem binOp_leq_not (t : TypeId) (a b : ByteArray) : binOp .leq t (.string a) (.string b) = pure (.bool !(Op.bytesLess b.toList a.toList)) := by
  rw [← leq_not]; simp [binOp, Op.stringOp]
theorem binOp_gtr_not (t : TypeId) (a b : ByteArray) : binOp .gtr t (.string a) (.string b) = pure (.bool (Op.bytesLess b.toList a.toList)) := by
  rw [show Op.bytesLess b.toList a.toList = !(!Op.bytesLess b.toList a.toList) by simp, ← leq_not]; simp [binOp, Op.stringOp]
theorem binOp_geq_not (t : TypeId) (a b : ByteArray) : binOp .geq t (.string a) (.string b) = pure (.bool !(Op.bytesLess a.toList b.toList)) := by
  simp [binOp, Op.stringOp]
end Go.Proofs.Ytmhcpaohligjaaa.Q
