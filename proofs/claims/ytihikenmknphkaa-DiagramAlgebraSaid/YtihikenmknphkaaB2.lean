/-
  Diagrams, plainly: conditions by their functions; each operation's result by its function. No condition.
-/
import Derived.Test.YtihikenmknphkaaTA
namespace Go.Proofs.Ytihikenmknphkaa.Q
open Go Go.RowKit Go.Maps Go.Proofs.YtihikenmknphkaaW.PrintWords Go.Proofs.YtihikenmknphkaaW.PrintLast Go.Proofs.YtihikenmknphkaaW.PrintMore Go.Proofs.Ytihikenmknphkaa.M
set_option linter.unusedVariables false
set_option linter.unusedSimpArgs false

/-- the condition x stands for φ -/
structure Cv (ns : List N39) (x : Int) (φ : Env → Bool) : Prop where
  v : validN ns x = true
  evs : ∀ e, ev ns e x = if φ e then 1 else 0
def Grows (ns ns' : List N39) : Prop := ∃ ms, ns' = ns ++ ms
theorem Cv.cd {ns : List N39} {x : Int} {φ : Env → Bool} (h : Cv ns x φ) : Cd ns x := fun e => by rw [h.evs e]; cases φ e <;> simp
theorem Cv.app {ns ns' : List N39} {x : Int} {φ : Env → Bool} (h : Cv ns x φ) (hw : WF ns) (hw' : WF ns') (hg : Grows ns ns') : Cv ns' x φ := by
  obtain ⟨ms, rfl⟩ := hg
  exact ⟨valid_app h.v, fun e => by rw [ev_grow hw hw' e h.v]; exact h.evs e⟩
theorem Cv.of {ns : List N39} (hw : WF ns) {x : Int} (h : condF ns x = true) : ∃ φ, Cv ns x φ := by
  obtain ⟨hv, hc⟩ := (condF_iff hw).1 h
  refine ⟨fun e => decide (ev ns e x = 1), hv, fun e => ?_⟩
  rcases hc e with h1 | h1 <;> rw [h1] <;> simp
theorem Cv.same {ns : List N39} (hw : WF ns) {x y : Int} {φ ψ : Env → Bool} (h : Cv ns x φ) (k : Cv ns y ψ) (he : ∀ e, φ e = ψ e) : x = y :=
  canonical hw h.v k.v (fun e => by rw [h.evs e, k.evs e, he e])
theorem Cv.no {ns : List N39} (hw : WF ns) : Cv ns (-1) (fun _ => false) := ⟨valid_iff.2 (by omega), fun e => by rw [ev_leaf (by omega)]; simp⟩
theorem Cv.yes {ns : List N39} (hw : WF ns) : Cv ns (-2) (fun _ => true) := ⟨valid_iff.2 (by omega), fun e => by rw [ev_leaf (by omega)]; simp⟩
theorem choose_step {ns : List N39} {n : Nat} (hs : Six ns n) (hn : n ≤ 3900) {f g h : Int} {φ ψ χ : Env → Bool} (hf : Cv ns f φ) (hg : Cv ns g ψ) (hh : Cv ns h χ) :
    ∃ ns' r, ChRes ns f g h ns' r ∧ Six ns' (n + 63) ∧ Grows ns ns' ∧ Cv ns' r (fun e => if φ e then ψ e else χ e) := by
  obtain ⟨ms, r, h1, h2, h3⟩ := ch_yes hs hn hf.v hf.cd hg.v hh.v
  refine ⟨_, r, h1, h2, ⟨ms, rfl⟩, h3.vr, fun e => ?_⟩
  rw [h3.sem e, (hf.app hs.wf h2.wf ⟨ms, rfl⟩).evs e, (hg.app hs.wf h2.wf ⟨ms, rfl⟩).evs e, (hh.app hs.wf h2.wf ⟨ms, rfl⟩).evs e]
  cases φ e <;> simp
theorem not_step {ns : List N39} {n : Nat} (hs : Six ns n) (hn : n ≤ 3900) {f : Int} {φ : Env → Bool} (hf : Cv ns f φ) :
    ∃ ns' r, ChRes ns f (-1) (-2) ns' r ∧ Six ns' (n + 63) ∧ Grows ns ns' ∧ Cv ns' r (fun e => !φ e) := by
  obtain ⟨ns', r, h1, h2, h3, h4⟩ := choose_step hs hn hf (Cv.no hs.wf) (Cv.yes hs.wf)
  exact ⟨ns', r, h1, h2, h3, h4.v, fun e => by rw [h4.evs e]; cases φ e <;> simp⟩
theorem and_step {ns : List N39} {n : Nat} (hs : Six ns n) (hn : n ≤ 3900) {f g : Int} {φ ψ : Env → Bool} (hf : Cv ns f φ) (hg : Cv ns g ψ) :
    ∃ ns' r, AndRes ns f g ns' r ∧ Six ns' (n + 63) ∧ Grows ns ns' ∧ Cv ns' r (fun e => φ e && ψ e) := by
  obtain ⟨ns', r, h1, h2, h3, h4⟩ := choose_step hs hn hf hg (Cv.no hs.wf)
  exact ⟨ns', r, .inr ⟨(condF_iff hs.wf).2 ⟨hg.v, hg.cd⟩, h1⟩, h2, h3, h4.v, fun e => by rw [h4.evs e]; cases φ e <;> simp⟩
theorem or_step {ns : List N39} {n : Nat} (hs : Six ns n) (hn : n ≤ 3900) {f g : Int} {φ ψ : Env → Bool} (hf : Cv ns f φ) (hg : Cv ns g ψ) :
    ∃ ns' r, OrRes ns f g ns' r ∧ Six ns' (n + 63) ∧ Grows ns ns' ∧ Cv ns' r (fun e => φ e || ψ e) := by
  obtain ⟨ns', r, h1, h2, h3, h4⟩ := choose_step hs hn hf (Cv.yes hs.wf) hg
  exact ⟨ns', r, .inr ⟨(condF_iff hs.wf).2 ⟨hg.v, hg.cd⟩, h1⟩, h2, h3, h4.v, fun e => by rw [h4.evs e]; cases φ e <;> simp⟩
theorem Cv.okI {ns : List N39} {n : Nat} (hs : Six ns n) (hn : n ≤ 4000) {x : Int} {φ : Env → Bool} (h : Cv ns x φ) : okI x := okI_valid h.v (by have := hs.len; omega)
/-- leaves that are at most 1 -/
theorem cond_leaves {ns : List N39} {x : Int} (hv : validN ns x = true) : condF ns x = (leavesF ns x).all (fun n => decide (n ≤ 1)) := by
  unfold condF
  rw [hv]
  simp only [Bool.true_and]
  rw [List.not_any_eq_all_not]
  congr 1
  funext n
  by_cases h : n ≤ 1
  · rw [decide_eq_true h, decide_eq_false (by omega)]; rfl
  · rw [decide_eq_false h, decide_eq_true (by omega)]; rfl
end Go.Proofs.Ytihikenmknphkaa.Q
