/-
  IdentityTells, as a statement over lists: the functions return what the references do. No condition.
-/
import Derived.Test.YtmhcpaohligjaaaQT
import Derived.Test.YtmhcpaohligjaaaR
namespace Go.Proofs.Ytmhcpaohligjaaa.Pure
open Go.RowKit Go.Proofs.Ytmhcpaohligjaaa.Q Go.Proofs.YtmhcpaohligjaaaW.PrintWords Go.Proofs.YtmhcpaohligjaaaW.PrintLast
set_option linter.unusedVariables false
set_option linter.unusedSimpArgs false

noncomputable def zoe : ByteArray := ⟨#[122, 111, 101]⟩
noncomputable def idsZ : List ByteArray := idsC ++ [zoe]
theorem idsZ_length : idsZ.length = 7 := rfl
theorem idsZ_ok : ∀ x ∈ idsZ, okS x := by
  intro x hx
  rcases List.mem_append.1 hx with h | h
  · exact idsC_ok x h
  · simp at h
    rw [h]
    show (3 : Nat) ≤ maxLen
    unfold maxLen
    omega
theorem rdS_idsZ {i : Int} (h0 : 0 ≤ i) (h1 : i < (idsZ.length : Int)) : rdOf ByteArray.empty idsZ i ∈ idsZ := rdS_mem h0 h1

theorem tells_times {l : List S28} (hm : Made l) (d : Nat) : ∀ t : Int, -1 ≤ t → t ≤ 30 → 30 - t = d → Ev (fun k => flagstonelaw26_IdentityTells.l2 k l t) true := by
  have h30 := hm.1
  induction d with
  | zero =>
    intro t h0 h1 hd
    refine Ev.step (f := fun k => (flagstoneref26_Forest.f k l).bind fun t495 => ((flagstoneref26_SameLinks.f k (forest l) t495).bind fun t498 => (some t498))) (fun k => ?_) (Ev.bind (rforest_ev (by omega)) ?_)
    · simp only [flagstonelaw26_IdentityTells.l2]
      rw [if_neg (by omega), forest_f hm.okA]
      rfl
    · have := hm.forest.1
      exact Ev.bind (links_ev (forest l) (by omega)) (Ev.now true)
  | succ d ih =>
    intro t h0 h1 hd
    have hw : wrap64 (t + 1) = t + 1 := by unfold wrap64; omega
    have hfl := List.length_filter_le (fun k : S28 => decide (k.f2 ≤ t)) l
    refine Ev.step (f := fun k => (identity_Until.f k l t).bind fun t499 => ((flagstoneref26_Until.f k l t).bind fun t502 => ((flagstoneref26_SameLinks.f k t499 t502).bind fun t505 => (if t505 = true then (flagstonelaw26_IdentityTells.l2 k l (t + 1)) else (none))))) (fun k => ?_) (Ev.bind (guntil_ev l t (by omega)) (Ev.bind (runtil_ev l t (by omega)) (Ev.bind (links_ev _ (by omega)) ?_)))
    · simp only [flagstonelaw26_IdentityTells.l2]
      rw [if_pos (by omega), hw]
    · simp only [if_true]
      exact ih (t + 1) (by omega) (by omega) (by omega)
theorem tells_in {l : List S28} (hm : Made l) {i : Int} (hi0 : 0 ≤ i) (hi1 : i < (idsZ.length : Int)) (hout : Ev (fun k => flagstonelaw26_IdentityTells.l0 k l idsZ (i + 1)) true) (d : Nat) :
    ∀ j : Int, 0 ≤ j → j ≤ (idsZ.length : Int) → (idsZ.length : Int) - j = d → Ev (fun k => flagstonelaw26_IdentityTells.l1 k l idsZ i j) true := by
  have h7 := idsZ_length
  have h30 := hm.1
  induction d with
  | zero =>
    intro j h0 h1 hd
    refine Ev.step (fun k => ?_) hout
    simp only [flagstonelaw26_IdentityTells.l1]
    rw [if_neg (by omega), wrap_next hi0 hi1 (by omega)]
  | succ d ih =>
    intro j h0 h1 hd
    have hlt : j < (idsZ.length : Int) := by omega
    have hw := wrap_next h0 hlt (by omega)
    have hx := idsZ_ok _ (rdS_idsZ hi0 hi1)
    have hy := idsZ_ok _ (rdS_idsZ h0 hlt)
    have hih := ih (j + 1) (by omega) (by omega) (by omega)
    generalize hxx : rdOf ByteArray.empty idsZ i = x at hx
    generalize hyy : rdOf ByteArray.empty idsZ j = y at hy
    obtain ⟨p, h1, h2, h3⟩ := rpath_ev (l := l) (by omega) x y
    rw [← path_f hm.okA hx hy] at h1
    refine Ev.step (f := fun k => (flagstoneref26_Path.f k l x y).bind fun bt484 => (if (sameB (rootL l x) (rootL l y) != bt484.2) = true then (none) else (if (sameB (rootL l x) (rootL l y) != bt484.2) = true then (none) else ((flagstoneref26_SameLinks.f k p bt484.1).bind fun t491 => (if t491 = true then (flagstonelaw26_IdentityTells.l1 k l idsZ i (j + 1)) else (none)))))) (fun k => ?_) (Ev.bind h2 ?_)
    · simp only [flagstonelaw26_IdentityTells.l1]
      rw [if_pos hlt, if_pos hi0, if_pos hi1, if_pos h0, hxx, hyy, h1, same_f hm.okA hx hy, hw]
      rfl
    · simp only [bne_self_eq_false, Bool.false_eq_true, if_false]
      refine Ev.bind (links_ev p (by omega)) ?_
      simp only [if_true]
      exact hih
theorem tells_out {l : List S28} (hm : Made l) (d : Nat) : ∀ i : Int, 0 ≤ i → i ≤ (idsZ.length : Int) → (idsZ.length : Int) - i = d → Ev (fun k => flagstonelaw26_IdentityTells.l0 k l idsZ i) true := by
  have h7 := idsZ_length
  have h30 := hm.1
  induction d with
  | zero =>
    intro i h0 h1 hd
    refine Ev.step (fun k => ?_) (tells_times hm 31 (-1) (by omega) (by omega) (by omega))
    simp only [flagstonelaw26_IdentityTells.l0]
    rw [if_neg (by omega)]
  | succ d ih =>
    intro i h0 h1 hd
    have hlt : i < (idsZ.length : Int) := by omega
    have hx := idsZ_ok _ (rdS_idsZ h0 hlt)
    have hin := tells_in hm h0 hlt (ih (i + 1) (by omega) (by omega) (by omega)) idsZ.length 0 (by omega) (by omega) (by omega)
    generalize hxx : rdOf ByteArray.empty idsZ i = x at hx
    have hml := members_length (l := l) (by omega) x
    refine Ev.step (f := fun k => (flagstoneref26_Members.f k l x).bind fun t468 => ((flagstoneref1_Same.f k (members l x) t468).bind fun t471 => (if t471 = true then ((flagstoneref26_Root.f k l x).bind fun t475 => (flagstonelaw26_IdentityTells.j1 k l idsZ i ((rootL l x).toList != t475.toList))) else (flagstonelaw26_IdentityTells.j1 k l idsZ i true)))) (fun k => ?_) (Ev.bind (rmembers_ev (by omega) x) (Ev.bind (same_ev _ (by omega)) ?_))
    · simp only [flagstonelaw26_IdentityTells.l0]
      rw [if_pos hlt, if_pos h0, hxx, members_f hm.okA hx, root_f hm.okA hx]
      rfl
    · simp only [if_true]
      refine Ev.bind (rroot_ev (by omega) x) ?_
      simp only [bne_self_eq_false]
      refine Ev.step (fun k => ?_) hin
      simp only [flagstonelaw26_IdentityTells.j1]
      rw [if_neg (by simp)]

theorem IdentityTells : flagstonelaw26_IdentityTells.Pure := by
  intro l0 _ _ hw
  refine Ev.rounds ?_
  unfold flagstonelaw26_IdentityTells.f
  refine Ev.bind awake_ev ?_
  simp only [if_true]
  by_cases h : (l0.length : Int) > 60
  · simp only [if_pos h]
    exact Ev.now true
  · simp only [if_neg h]
    obtain ⟨r, hr, hm⟩ := links_made (okU_of (by omega) hw) true
    rw [hr, ids_f]
    simp only [Option.bind_some]
    have h6 : idsC.length = 6 := rfl
    simp only [if_pos (show idsC.length < 8796093022208 by omega)]
    exact tells_out hm idsZ.length 0 (by omega) (by omega) (by omega)
end Go.Proofs.Ytmhcpaohligjaaa.Pure
