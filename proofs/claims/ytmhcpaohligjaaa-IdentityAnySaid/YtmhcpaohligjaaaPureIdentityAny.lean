/-
  IdentityAny, as a statement over lists: the functions return what the references do, for any links and ids. A condition: texts are no longer than a text can be.
-/
import Derived.Test.YtmhcpaohligjaaaQY
import Derived.Test.YtmhcpaohligjaaaR
namespace Go.Proofs.Ytmhcpaohligjaaa.Pure
open Go.RowKit Go.Proofs.Ytmhcpaohligjaaa.Q Go.Proofs.YtmhcpaohligjaaaW.PrintWords Go.Proofs.YtmhcpaohligjaaaW.PrintLast
set_option linter.unusedVariables false
set_option linter.unusedSimpArgs false

theorem any_j1 {l : List S28} (hl : l.length ≤ 40) (hok : okA l) {a b : ByteArray} (ha : okS a) (hb : okS b) (t : Int) : Ev (fun k => flagstonelaw26_IdentityAny.j1 k l a b t) true := by
  obtain ⟨p, h1, h2, h3⟩ := rpath_ev (l := l) (by omega) a b
  rw [← path_f hok ha hb] at h1
  have hml := members_length (l := l) (by omega) a
  have hfl := List.length_filter_le (fun k : S28 => decide (k.f2 ≤ t)) l
  have hfo : (forest l).length ≤ l.length := forestL_length l _
  refine Ev.step (f := fun k => (flagstoneref26_Path.f k l a b).bind fun bt513 => ((flagstoneref26_Members.f k l a).bind fun t520 => ((flagstoneref1_Same.f k (members l a) t520).bind fun t523 => (if t523 = true then ((flagstoneref26_Root.f k l b).bind fun t525 => (if (rootL l b).toList = t525.toList then (if (sameB (rootL l a) (rootL l b) == bt513.2) = true then (if (sameB (rootL l a) (rootL l b) == bt513.2) = true then ((flagstoneref26_SameLinks.f k p bt513.1).bind fun t527 => (if t527 = true then ((identity_Until.f k l t).bind fun t528 => ((flagstoneref26_Until.f k l t).bind fun t531 => ((flagstoneref26_SameLinks.f k t528 t531).bind fun t534 => (if t534 = true then ((flagstoneref26_Forest.f k l).bind fun t538 => ((flagstoneref26_SameLinks.f k (forest l) t538).bind fun t541 => (some t541))) else (none))))) else (none))) else (none)) else (none)) else (none))) else (none))))) (fun k => ?_) (Ev.bind h2 (Ev.bind (rmembers_ev (by omega) a) (Ev.bind (same_ev _ (by omega)) ?_)))
  · simp only [flagstonelaw26_IdentityAny.j1]
    rw [h1, members_f hok ha, root_f hok hb, same_f hok ha hb, forest_f hok]
    rfl
  · simp only [if_true]
    refine Ev.bind (rroot_ev (by omega) b) ?_
    simp only [if_true, beq_self_eq_true]
    refine Ev.bind (links_ev p (by omega)) ?_
    simp only [if_true]
    refine Ev.bind (guntil_ev l t (by omega)) (Ev.bind (runtil_ev l t (by omega)) (Ev.bind (links_ev _ (by omega)) ?_))
    simp only [if_true]
    exact Ev.bind (rforest_ev (by omega)) (Ev.bind (links_ev _ (by omega)) (Ev.now true))
theorem any_j0 {l : List S28} (hl : l.length ≤ 40) (hok : okA l) {a b : ByteArray} (ha : okS a) (hb : okS b) (t : Int) (c : Bool) (hc : c = true → 0 < l.length) : Ev (fun k => flagstonelaw26_IdentityAny.j0 k l a b t c) true := by
  cases c with
  | false =>
    refine Ev.step (fun k => ?_) (any_j1 hl hok ha hb t)
    simp only [flagstonelaw26_IdentityAny.j0]
    rw [if_neg (by simp)]
  | true =>
    have h0 := hc rfl
    have hw : wrap64 ((l.length : Int) - 1) = (l.length : Int) - 1 := by unfold wrap64; omega
    have m0 := hok.2 _ (rd_memI (l := l) (i := 0) (by omega) (by omega))
    have m1 := hok.2 _ (rd_memI (l := l) (i := (l.length : Int) - 1) (by omega) (by omega))
    refine Ev.step (fun k => ?_) (any_j1 hl hok m0.1 m1.2 t)
    simp only [flagstonelaw26_IdentityAny.j0, if_true]
    rw [if_pos (by omega), hw, if_pos (by omega), if_pos (by omega)]
theorem IdentityAny (l : List S28) (a b : ByteArray) (t : Int) (hok : okL l) (ha : okS a) (hb : okS b) : ∃ k, flagstonelaw26_IdentityAny.f k l a b t = some true := by
  refine Ev.rounds ?_
  unfold flagstonelaw26_IdentityAny.f
  refine Ev.bind awake_ev ?_
  simp only [if_true]
  by_cases h : (l.length : Int) > 40
  · simp only [if_pos h]
    exact Ev.now true
  · simp only [if_neg h]
    have hA : okA l := ⟨by omega, hok⟩
    by_cases h0 : (l.length : Int) > 0
    · simp only [if_pos h0]
      exact any_j0 (by omega) hA ha hb t _ (fun _ => by omega)
    · simp only [if_neg h0]
      exact any_j0 (by omega) hA ha hb t false (fun e => by cases e)
end Go.Proofs.Ytmhcpaohligjaaa.Pure
