/-
  IdentityForests, as a statement over lists: Forest has as many links as ids less roots, and Forest of it is the same. No condition.
-/
import Derived.Test.YtmhcpaohligjaaaQ9
import Derived.Test.YtmhcpaohligjaaaE3
namespace Go.Proofs.Ytmhcpaohligjaaa.Pure
open Go.RowKit Go.Proofs.Ytmhcpaohligjaaa.Q Go.Proofs.YtmhcpaohligjaaaW.PrintWords Go.Proofs.YtmhcpaohligjaaaW.PrintLast
set_option linter.unusedVariables false

theorem loop (l : List S28) (hm : Made l) (d : Nat) : ∀ (i c : Int), 0 ≤ i → i ≤ (idsC.length : Int) → (idsC.length : Int) - i = d → c = ((idsC.take i.toNat).countP fun x => sameB (rootL l x) x) →
    Ev (fun k => flagstonelaw26_IdentityForests.l0 k l (forest l) idsC c i) true := by
  induction d with
  | zero =>
    intro i c h0 h1 hd hc
    have hl := forest_length idsC_nodup hm.2
    have hi : i = (idsC.length : Int) := by omega
    have hc2 : (idsC.length : Int) - c = ((forest l).length : Int) := by
      rw [hc, hi, Int.toNat_natCast, List.take_length]
      omega
    have hb : (forest l).length ≤ 30 := hm.forest.1
    have h6 : idsC.length = 6 := rfl
    have hw : wrap64 ((idsC.length : Int) - c) = (idsC.length : Int) - c := by unfold wrap64; omega
    obtain ⟨K, hk⟩ := links_ev (forest l) (by omega)
    refine Ev.step (f := fun k => flagstoneref26_SameLinks.f k (forest l) (forest l)) (fun k => ?_) ⟨K, hk⟩
    simp only [flagstonelaw26_IdentityForests.l0]
    rw [if_neg (by omega), hw, if_pos hc2.symm, forest_f hm.forest.okA, forest_again]
    simp only [Option.bind_some]
    cases flagstoneref26_SameLinks.f k (forest l) (forest l) <;> rfl
  | succ d ih =>
    intro i c h0 h1 hd hc
    have hlt : i < (idsC.length : Int) := by omega
    have h6 : idsC.length = 6 := rfl
    have hc6 : 0 ≤ c ∧ c ≤ 6 := by
      rw [hc]
      have := List.countP_le_length (p := fun x => sameB (rootL l x) x) (l := idsC.take i.toNat)
      simp [h6] at this
      omega
    have hw : wrap64 (i + 1) = i + 1 := by unfold wrap64; omega
    have hw2 : wrap64 (c + 1) = c + 1 := by unfold wrap64; omega
    have ht : (i + 1).toNat = i.toNat + 1 := by omega
    have htk : idsC.take (i + 1).toNat = idsC.take i.toNat ++ [rdOf ByteArray.empty idsC i] := by
      rw [ht, List.take_succ_eq_append_getElem (by omega)]
      simp [rdOf, List.getD_eq_getElem?_getD, List.getElem?_eq_getElem (show i.toNat < idsC.length by omega)]
    have hx := rdS_ids h0 hlt
    generalize hxx : rdOf ByteArray.empty idsC i = x at *
    by_cases hr : rootL l x = x
    · refine Ev.step (f := fun k => flagstonelaw26_IdentityForests.l0 k l (forest l) idsC (c + 1) (i + 1)) (fun k => ?_) (ih (i + 1) (c + 1) (by omega) (by omega) (by omega) ?_)
      · simp only [flagstonelaw26_IdentityForests.l0]
        rw [if_pos hlt, if_pos h0, hxx, root_f hm.okA (idsC_ok x hx)]
        simp only [Option.bind_some]
        rw [if_pos (by rw [hr]), hw, hw2]
      · rw [htk, List.countP_append, hc]
        simp [sameB_true hr]
    · refine Ev.step (f := fun k => flagstonelaw26_IdentityForests.l0 k l (forest l) idsC c (i + 1)) (fun k => ?_) (ih (i + 1) c (by omega) (by omega) (by omega) ?_)
      · simp only [flagstonelaw26_IdentityForests.l0]
        rw [if_pos hlt, if_pos h0, hxx, root_f hm.okA (idsC_ok x hx)]
        simp only [Option.bind_some]
        rw [if_neg (fun e => hr (toList_inj e)), hw]
      · rw [htk, List.countP_append, hc]
        simp [sameB_false hr]

theorem IdentityForests : flagstonelaw26_IdentityForests.Pure := by
  intro l0 _ _ hw
  refine Ev.rounds ?_
  unfold flagstonelaw26_IdentityForests.f
  refine Ev.bind awake_ev ?_
  simp only [if_true]
  by_cases h : (l0.length : Int) > 60
  · simp only [if_pos h]
    exact Ev.now true
  · simp only [if_neg h]
    obtain ⟨r, hr, hm⟩ := links_made (okU_of (by omega) hw) true
    rw [hr]
    simp only [Option.bind_some]
    rw [forest_f hm.okA, ids_f]
    simp only [Option.bind_some]
    exact loop r hm idsC.length 0 0 (by omega) (by omega) (by omega) (by simp)
end Go.Proofs.Ytmhcpaohligjaaa.Pure
