/-
  The links that Forest keeps. No condition.
-/
import Derived.Test.YtmhcpaohligjaaaT1
namespace Go.Proofs.Ytmhcpaohligjaaa.Q
open Go.RowKit Go.Proofs.YtmhcpaohligjaaaW.PrintWords Go.Proofs.YtmhcpaohligjaaaW.PrintLast Go.Proofs.Ytmhcpaohligjaaa.M
set_option linter.unusedVariables false

noncomputable def forest (l : List S28) : List S28 := forestL l (fun _ => none)
theorem forestL_fold : ∀ (l : List S28) (p : For), (forestL l p).foldl joinK p = l.foldl joinK p
  | [], p => rfl
  | k :: l, p => by
    by_cases h : rootC p k.f0 = rootC p k.f1
    · have e : joinK p k = p := by unfold joinK; rw [if_pos h]
      rw [forestL, if_pos h, List.foldl_cons, e]
      exact forestL_fold l p
    · rw [forestL, if_neg h, List.foldl_cons, List.foldl_cons]
      exact forestL_fold l _
theorem forest_root (l : List S28) (x : ByteArray) : rootL (forest l) x = rootL l x := by
  unfold rootL ofL forest
  rw [forestL_fold]
theorem forest_conn (l : List S28) (x y : ByteArray) : Conn (forest l) x y ↔ Conn l x y := by
  unfold Conn
  rw [forest_root, forest_root]
theorem forestL_again : ∀ (l : List S28) (p : For), forestL (forestL l p) p = forestL l p
  | [], p => rfl
  | k :: l, p => by
    by_cases h : rootC p k.f0 = rootC p k.f1
    · rw [forestL, if_pos h]
      exact forestL_again l p
    · rw [forestL, if_neg h, forestL, if_neg h, forestL_again l]
theorem forest_again (l : List S28) : forest (forest l) = forest l := forestL_again l _
theorem forestL_sub : ∀ (l : List S28) (p : For), ∀ k ∈ forestL l p, k ∈ l
  | [], p, k, h => h
  | j :: l, p, k, h => by
    unfold forestL at h
    split at h
    · exact List.mem_cons_of_mem _ (forestL_sub l _ k h)
    · rcases List.mem_cons.1 h with e | e
      · rw [e]; simp
      · exact List.mem_cons_of_mem _ (forestL_sub l _ k e)

/-- how many of the ids of U are roots -/
noncomputable def roots (U : List ByteArray) (p : For) : Nat := U.countP fun x => sameB (rootC p x) x
theorem roots_join {p : For} {S : List ByteArray} (h : Tree p S) {r s : ByteArray} (hr : p r = none) (hs : p s = none) (hne : r ≠ s) (x : ByteArray) :
    sameB (rootC (joinP p r s) x) x = (sameB (rootC p x) x && !(sameB x (Lib.maxS r s))) := by
  rw [h.rootC_join hr hs hne]
  rcases minmax hne with ⟨h1, h2⟩ | ⟨h1, h2⟩
  · rw [h1, h2]
    have e1 := rootC_self hr
    have e2 := rootC_self hs
    by_cases hx : rootC p x = s
    · rw [if_pos hx]
      have : r ≠ x := by rintro rfl; rw [e1] at hx; exact hne hx
      rw [sameB_false this, hx]
      by_cases e : s = x
      · subst e; simp [sameB]
      · rw [sameB_false e]; rfl
    · rw [if_neg hx]
      by_cases e : rootC p x = x
      · have : x ≠ s := by rintro rfl; exact hx e2
        rw [sameB_true e, sameB_false this]; rfl
      · rw [sameB_false e]; rfl
  · rw [h1, h2]
    have e1 := rootC_self hr
    have e2 := rootC_self hs
    by_cases hx : rootC p x = r
    · rw [if_pos hx]
      have : s ≠ x := by rintro rfl; rw [e2] at hx; exact hne hx.symm
      rw [sameB_false this, hx]
      by_cases e : r = x
      · subst e; simp [sameB]
      · rw [sameB_false e]; rfl
    · rw [if_neg hx]
      by_cases e : rootC p x = x
      · have : x ≠ r := by rintro rfl; exact hx e1
        rw [sameB_true e, sameB_false this]; rfl
      · rw [sameB_false e]; rfl
theorem countP_drop {U : List ByteArray} (hU : U.Nodup) {q : ByteArray → Bool} {m : ByteArray} (hm : m ∈ U) (hq : q m = true) : (U.countP fun x => q x && !(sameB x m)) + 1 = U.countP q := by
  induction U with
  | nil => cases hm
  | cons y U ih =>
    obtain ⟨h1, h2⟩ := List.nodup_cons.1 hU
    rw [List.countP_cons, List.countP_cons]
    rcases List.mem_cons.1 hm with e | e
    · subst e
      have e3 : ∀ z ∈ U, (q z && !(sameB z m)) = q z := by
        intro z hz
        have : z ≠ m := by rintro rfl; exact h1 hz
        rw [sameB_false this]; simp
      have e4 : (U.countP fun x => q x && !(sameB x m)) = U.countP q := List.countP_congr (fun z hz => by rw [e3 z hz])
      rw [e4, hq, sameB_true rfl]
      simp
    · have : y ≠ m := by rintro rfl; exact h1 e
      rw [sameB_false this]
      have := ih h2 e
      simp
      omega
theorem forestL_roots (U : List ByteArray) (hU : U.Nodup) : ∀ (l : List S28) (p : For) (S : List ByteArray), Tree p S → (∀ k ∈ l, k.f0 ∈ S ∧ k.f1 ∈ S) → (∀ x ∈ S, x ∈ U) →
    (forestL l p).length + roots U (l.foldl joinK p) = roots U p
  | [], p, S, _, _, _ => by simp [forestL]
  | k :: l, p, S, h, hl, hs => by
    obtain ⟨h0, h1⟩ := hl k (by simp)
    have hl2 : ∀ j ∈ l, j.f0 ∈ S ∧ j.f1 ∈ S := fun j hj => hl j (by simp [hj])
    by_cases e : rootC p k.f0 = rootC p k.f1
    · have e2 : joinK p k = p := by unfold joinK; rw [if_pos e]
      rw [forestL, if_pos e, List.foldl_cons, e2]
      exact forestL_roots U hU l p S h hl2 hs
    · rw [forestL, if_neg e, List.foldl_cons]
      have h3 := forestL_roots U hU l _ S (h.joinK h0 h1) hl2 hs
      have e2 : joinK p k = joinP p (rootC p k.f0) (rootC p k.f1) := by unfold joinK; rw [if_neg e]
      have h4 : roots U (joinK p k) + 1 = roots U p := by
        unfold roots
        have hmx := hs _ (h.max_mem h0 h1)
        have e5 : ∀ x, sameB (rootC (joinK p k) x) x = (sameB (rootC p x) x && !(sameB x (Lib.maxS (rootC p k.f0) (rootC p k.f1)))) := by
          intro x
          rw [e2]
          exact roots_join h (h.root_none _) (h.root_none _) e x
        simp only [e5]
        refine countP_drop hU hmx ?_
        apply sameB_true
        unfold Lib.maxS
        split
        · exact h.root_root _
        · exact h.root_root _
      simp only [List.length_cons]
      omega
theorem forest_length {l : List S28} {U : List ByteArray} (hU : U.Nodup) (hl : ∀ k ∈ l, k.f0 ∈ U ∧ k.f1 ∈ U) : (forest l).length + (U.countP fun x => sameB (rootL l x) x) = U.length := by
  have h := forestL_roots U hU l (fun _ => none) U (Tree.empty U) hl (fun x hx => hx)
  have e : roots U (fun _ => none) = U.length := by
    unfold roots
    rw [List.countP_eq_length]
    intro x _
    rw [rootC_self rfl]
    exact sameB_true rfl
  rw [e] at h
  exact h
end Go.Proofs.Ytmhcpaohligjaaa.Q
