/-
  IdentityGrows, as a statement over lists: one more link unites at most two subjects. No condition.
-/
import Derived.Test.YtmhcpaohligjaaaQG
import Derived.Test.YtmhcpaohligjaaaE3
namespace Go.Proofs.Ytmhcpaohligjaaa.Pure
open Go.RowKit Go.Proofs.Ytmhcpaohligjaaa.Q Go.Proofs.YtmhcpaohligjaaaW.PrintWords Go.Proofs.YtmhcpaohligjaaaW.PrintLast
set_option linter.unusedVariables false

theorem id_any (n : Int) (h0 : 0 ≤ n) : ∃ s, flagstonedata_Id.f n = some s ∧ s ∈ idsC := by
  have h1 : Int.tmod n 6 = n % 6 := Int.tmod_eq_emod_of_nonneg h0
  have h2 : 0 ≤ n % 6 ∧ n % 6 < 6 := ⟨Int.emod_nonneg _ (by omega), Int.emod_lt_of_pos _ (by omega)⟩
  refine ⟨idN (n % 6), ?_, idN_mem h2.1 h2.2⟩
  unfold flagstonedata_Id.f
  rw [ids_f]
  simp only [Option.bind_some]
  have h6 : (idsC.length : Int) = 6 := rfl
  rw [h6, if_neg (by omega), h1, if_pos h2.1, if_pos h2.2]
  rfl

theorem sameB_snoc (l : List S28) (s t : ByteArray) (n : Int) (x y : ByteArray) :
    sameB (rootL (l ++ [⟨s, t, n⟩]) x) (rootL (l ++ [⟨s, t, n⟩]) y) = (sameB (rootL l x) (rootL l y) || (sameB (rootL l x) (rootL l s) && sameB (rootL l t) (rootL l y) || sameB (rootL l x) (rootL l t) && sameB (rootL l s) (rootL l y))) := by
  have h := conn_snoc l ⟨s, t, n⟩ x y
  unfold Conn at h
  rw [Bool.eq_iff_iff]
  simp only [Bool.or_eq_true, Bool.and_eq_true, sameB_iff]
  exact h

theorem okA_snoc {l : List S28} (hm : Made l) {s t : ByteArray} (hs : okS s) (ht : okS t) (n : Int) : okA (l ++ [⟨s, t, n⟩]) := by
  refine ⟨by have := hm.1; simp; omega, fun k hk => ?_⟩
  rcases List.mem_append.1 hk with hk | hk
  · exact hm.okA.2 k hk
  · simp at hk
    subst hk
    exact ⟨hs, ht⟩

theorem grow_in {l : List S28} {s t : ByteArray} (hm : Made l) (hs : okS s) (ht : okS t) {i : Int} (hi0 : 0 ≤ i) (hi1 : i < (idsC.length : Int)) (hout : Ev (fun k => flagstonelaw26_IdentityGrows.l0 k l (l ++ [⟨s, t, 90⟩]) idsC (i + 1) s t 90) true) (d : Nat) :
    ∀ j : Int, 0 ≤ j → j ≤ (idsC.length : Int) → (idsC.length : Int) - j = d → Ev (fun k => flagstonelaw26_IdentityGrows.l1 k l (l ++ [⟨s, t, 90⟩]) idsC i j s t 90) true := by
  have h6 : idsC.length = 6 := rfl
  induction d with
  | zero =>
    intro j h0 h1 hd
    refine Ev.step (fun k => ?_) hout
    simp only [flagstonelaw26_IdentityGrows.l1]
    rw [if_neg (by omega), wrap_next hi0 hi1 (by omega)]
  | succ d ih =>
    intro j h0 h1 hd
    have hlt : j < (idsC.length : Int) := by omega
    have hx := idsC_ok _ (rdS_ids hi0 hi1)
    have hy := idsC_ok _ (rdS_ids h0 hlt)
    refine Ev.step (fun k => ?_) (ih (j + 1) (by omega) (by omega) (by omega))
    simp only [flagstonelaw26_IdentityGrows.l1]
    rw [if_pos hlt, if_pos hi0, if_pos hi1, if_pos h0, wrap_next h0 hlt (by omega)]
    generalize rdOf ByteArray.empty idsC i = x at hx ⊢
    generalize rdOf ByteArray.empty idsC j = y at hy ⊢
    rw [same_f hm.okA hx hy, same_f (okA_snoc hm hs ht 90) hx hy, same_f hm.okA hx hs, same_f hm.okA ht hy, same_f hm.okA hx ht, same_f hm.okA hs hy, sameB_snoc]
    generalize sameB (rootL l x) (rootL l y) = b0
    generalize sameB (rootL l x) (rootL l s) = b1
    generalize sameB (rootL l t) (rootL l y) = b2
    generalize sameB (rootL l x) (rootL l t) = b3
    generalize sameB (rootL l s) (rootL l y) = b4
    cases b0 <;> cases b1 <;> cases b2 <;> cases b3 <;> cases b4 <;> rfl
theorem grow_out {l : List S28} {s t : ByteArray} (hm : Made l) (hs : okS s) (ht : okS t) (d : Nat) :
    ∀ i : Int, 0 ≤ i → i ≤ (idsC.length : Int) → (idsC.length : Int) - i = d → Ev (fun k => flagstonelaw26_IdentityGrows.l0 k l (l ++ [⟨s, t, 90⟩]) idsC i s t 90) true := by
  induction d with
  | zero =>
    intro i h0 h1 hd
    refine Ev.step (f := fun _ => some true) (fun k => ?_) (Ev.now true)
    simp only [flagstonelaw26_IdentityGrows.l0]
    rw [if_neg (by omega)]
  | succ d ih =>
    intro i h0 h1 hd
    have hlt : i < (idsC.length : Int) := by omega
    refine Ev.step (fun k => ?_) (grow_in hm hs ht h0 hlt (ih (i + 1) (by omega) (by omega) (by omega)) idsC.length 0 (by omega) (by omega) (by omega))
    simp only [flagstonelaw26_IdentityGrows.l0]
    rw [if_pos hlt]

theorem IdentityGrows : flagstonelaw26_IdentityGrows.Pure := by
  intro l0 a1 a2 _ _ hw ha1 ha2
  have b1 : 0 ≤ a1 ∧ a1 ≤ 255 := by simpa [Lit.wf, IntKind.min, IntKind.max, IntKind.signed, IntKind.bits] using ha1
  have b2 : 0 ≤ a2 ∧ a2 ≤ 255 := by simpa [Lit.wf, IntKind.min, IntKind.max, IntKind.signed, IntKind.bits] using ha2
  have w1 : wrap64 a1 = a1 := by unfold wrap64; omega
  have w2 : wrap64 a2 = a2 := by unfold wrap64; omega
  refine Ev.rounds ?_
  unfold flagstonelaw26_IdentityGrows.f
  refine Ev.bind awake_ev ?_
  simp only [if_true]
  by_cases h : (l0.length : Int) > 60
  · simp only [if_pos h]
    exact Ev.now true
  · simp only [if_neg h]
    obtain ⟨r, hr, hm⟩ := links_made (okU_of (by omega) hw) true
    obtain ⟨s, hs, hsm⟩ := id_any a1 b1.1
    obtain ⟨t, ht, htm⟩ := id_any a2 b2.1
    have hAs := idsC_ok s hsm
    have hAt := idsC_ok t htm
    have hlr : r.length ≤ 30 := hm.1
    rw [hr, w1, w2, hs, ht, ids_f]
    simp only [Option.bind_some, List.nil_append, List.length_nil, List.length_cons]
    simp only [if_pos (show 0 + r.length < 3518437208883 by omega), if_pos (show r.length + (0 + 1) < 3518437208883 by omega)]
    exact grow_out hm hAs hAt idsC.length 0 (by omega) (by omega) (by omega)
end Go.Proofs.Ytmhcpaohligjaaa.Pure
