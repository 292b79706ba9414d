/-
  The example of the chapter holds. No condition.
-/
import Derived.Test.YtmhcpaohligjaaaE2
namespace Go.Proofs.Ytmhcpaohligjaaa.Q
open Go.RowKit Go.Proofs.YtmhcpaohligjaaaW.PrintWords Go.Proofs.YtmhcpaohligjaaaW.PrintLast Go.Proofs.Ytmhcpaohligjaaa.M
set_option linter.unusedVariables false

abbrev sA : ByteArray := ⟨#[97]⟩
abbrev sB : ByteArray := ⟨#[98]⟩
abbrev sC : ByteArray := ⟨#[99]⟩
abbrev exL : List S28 := [⟨sA, sB, 0⟩, ⟨sB, sC, 0⟩]
theorem exA : sA ≠ sB ∧ sA ≠ sC ∧ sB ≠ sC ∧ sB ≠ sA ∧ sC ≠ sA ∧ sC ≠ sB := by decide
theorem ex_path : pathF exL sA sC = some (exL, true) := by
  obtain ⟨h1, h2, h3, h4, h5, h6⟩ := exA
  have w0 : wrap64 0 = 0 := by unfold wrap64; omega
  have w1 : wrap64 1 = 1 := by unfold wrap64; omega
  have w2 : wrap64 2 = 2 := by unfold wrap64; omega
  simp [pathF, bfs, fuelL, stepI, stepK, otherO, far0, upd, pathN, nextP, firstK, h1, h2, h3, h4, h5, h6, w0, w1, w2]
theorem ex_okA : okA exL := by
  refine ⟨by decide, fun k hk => ?_⟩
  have h : ∀ j ∈ exL, j.f0.size ≤ 1 ∧ j.f1.size ≤ 1 := by decide
  have := h k hk
  unfold okS maxLen
  omega
theorem ex_ok : okS sA ∧ okS sC := by unfold okS maxLen; exact ⟨by decide, by decide⟩
theorem ex_members : members exL sC = [sA, sB, sC] := by
  have hm : ∀ x, x ∈ members exL sC ↔ x ∈ [sA, sB, sC] := by
    intro x
    rw [mem_members]
    have c1 : Conn exL sA sB := conn_link (l := exL) (k := ⟨sA, sB, 0⟩) (by simp)
    have c2 : Conn exL sB sC := conn_link (l := exL) (k := ⟨sB, sC, 0⟩) (by simp)
    constructor
    · intro h
      rcases conn_ids h with e | e
      · simp [e]
      · have := e.1
        simp [idsL] at this
        simp
        rcases this with h | h | h <;> simp [h]
    · intro h
      simp at h
      rcases h with e | e | e <;> subst e
      · exact c1.trans c2
      · exact c2
      · exact Conn.refl _ _
  refine sorted_ext (members_sorted _ _) ?_ hm
  have o1 : ltS sA sB := by unfold ltS; decide
  have o2 : ltS sB sC := by unfold ltS; decide
  simp [o1, o2, ltS_trans o1 o2]
theorem awake_ev : Ev (fun k => flagstonelaw26_awake.f k) true := by
  obtain ⟨K, h1⟩ := same_ev [sA, sB, sC] (by decide)
  obtain ⟨K', h2⟩ := links_ev exL (by decide)
  refine ⟨max K K', fun k hk => ?_⟩
  have e1 : identity_Path.f exL sA sC = some (exL, true) := by
    unfold identity_Path.f
    rw [grd_pos ⟨ex_okA, ex_ok.1, ex_ok.2⟩]
    exact ex_path
  have e2 : identity_Members.f exL sC = some [sA, sB, sC] := by
    rw [members_f ex_okA ex_ok.2, ex_members]
  unfold flagstonelaw26_awake.f
  simp only [Option.bind_some]
  rw [show identity_Path.f _ _ _ = _ from e1]
  simp only [Option.bind_some]
  rw [show identity_Members.f _ _ = _ from e2]
  simp only [Option.bind_some]
  rw [show flagstoneref1_Same.f k _ _ = _ from h1 k (by omega)]
  simp only [Option.bind_some, if_true]
  rw [show flagstoneref26_SameLinks.f k _ _ = _ from h2 k (by omega)]
  rfl
end Go.Proofs.Ytmhcpaohligjaaa.Q
