/-
  More about members: how many they are at most, the first one, those of another member. No condition.
-/
import Derived.Test.YtmhcpaohligjaaaE3
import Derived.Test.YtmhcpaohligjaaaB
import Derived.Test.YtmhcpaohligjaaaT3
import Derived.Lib.RowBridge
namespace Go.Proofs.Ytmhcpaohligjaaa.Q
open Go.RowKit Go.Proofs.YtmhcpaohligjaaaW.PrintWords Go.Proofs.YtmhcpaohligjaaaW.PrintLast Go.Proofs.Ytmhcpaohligjaaa.M
set_option linter.unusedVariables false

theorem sortD_length (l : List ByteArray) : (sortD l).length ≤ l.length := by
  unfold sortD
  have h := Lib.compact_length_le ((l.map fun s => s.data.toList).mergeSort fun x y => decide (x ≤ y))
  simp only [List.length_map, List.length_mergeSort] at h ⊢
  exact h
theorem members_length {l : List S28} (h : l.length ≤ 100) (a : ByteArray) : (members l a).length ≤ 1000 := by
  have h1 := sortD_length (rawL l a)
  have h2 : (rawL l a).length ≤ 2 * l.length + 1 := by
    unfold rawL
    have h3 := List.length_filter_le (fun x => sameB (rootL l x) (rootL l a)) (idsL l)
    have h4 : (idsL l).length = 2 * l.length := idsL_length l
    simp only [List.length_cons]
    omega
  unfold members
  omega
theorem members_all {l : List S28} {x y : ByteArray} (h : Conn l y x) : members l y = members l x :=
  members_congr (fun z => ⟨fun k => k.trans h, fun k => k.trans h.symm⟩)
theorem members_zero (l : List S28) (a : ByteArray) : 0 < (members l a).length ∧ rdOf ByteArray.empty (members l a) 0 = rootL l a := by
  have h := members_head (l := l) (a := a)
  cases hm : members l a with
  | nil => rw [hm] at h; cases h
  | cons x t =>
    rw [hm] at h
    injection h with h
    exact ⟨by simp, by simp [rdOf, h]⟩
theorem members_okS {l : List S28} (hm : okA l) {a x : ByteArray} (ha : okS a) (hx : x ∈ members l a) : okS x := by
  rcases conn_ids (mem_members.1 hx) with e | ⟨h, _⟩
  · rw [e]; exact ha
  · exact okL_ids hm.2 x h
theorem members_step {l : List S28} {a : ByteArray} {j : Int} (h0 : 0 < j) (h1 : j < ((members l a).length : Int)) : ltS (rdOf ByteArray.empty (members l a) (j - 1)) (rdOf ByteArray.empty (members l a) j) := by
  have h := List.pairwise_iff_getElem.1 (members_sorted l a) (j - 1).toNat j.toNat (by omega) (by omega) (by omega)
  have e1 : rdOf ByteArray.empty (members l a) (j - 1) = (members l a)[(j - 1).toNat]'(by omega) := by
    unfold rdOf
    rw [List.getD_eq_getElem?_getD, List.getElem?_eq_getElem (show (j - 1).toNat < (members l a).length by omega)]
    rfl
  have e2 : rdOf ByteArray.empty (members l a) j = (members l a)[j.toNat]'(by omega) := by
    unfold rdOf
    rw [List.getD_eq_getElem?_getD, List.getElem?_eq_getElem (show j.toNat < (members l a).length by omega)]
    rfl
  rw [e1, e2]
  exact h
end Go.Proofs.Ytmhcpaohligjaaa.Q
