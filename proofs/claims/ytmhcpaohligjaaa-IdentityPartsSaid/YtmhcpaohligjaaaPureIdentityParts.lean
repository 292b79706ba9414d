/-
  IdentityParts, as a statement over lists: belonging together is an equivalence. No condition.
-/
import Derived.Test.YtmhcpaohligjaaaQP
import Derived.Test.YtmhcpaohligjaaaE4
namespace Go.Proofs.Ytmhcpaohligjaaa.Pure
open Go.RowKit Go.Proofs.Ytmhcpaohligjaaa.Q Go.Proofs.YtmhcpaohligjaaaW.PrintWords Go.Proofs.YtmhcpaohligjaaaW.PrintLast
set_option linter.unusedVariables false

theorem part_j {l : List S28} (hm : Made l) {i : Int} (hi0 : 0 ≤ i) (hi1 : i < (idsC.length : Int)) {x : ByteArray} (hx : rdOf ByteArray.empty idsC i = x) (f : Bool) {j : Int} (h0 : 0 ≤ j) (hlt : j < ((members l x).length : Int))
    (hn : Ev (fun k => flagstonelaw26_IdentityParts.l1 k l idsC i (members l x) f (j + 1)) true) : Ev (fun k => flagstonelaw26_IdentityParts.j2 k l idsC i (members l x) f j) true := by
  have hxm : x ∈ idsC := hx ▸ rdS_ids hi0 hi1
  have hxo := idsC_ok x hxm
  have hlen := members_length (l := l) (by have := hm.1; omega) x
  have hym : rdOf ByteArray.empty (members l x) j ∈ members l x := rdS_mem h0 hlt
  have hyx := mem_members.1 hym
  have hyo := members_okS hm.okA hxo hym
  obtain ⟨hz0, hz⟩ := members_zero l x
  have hw := wrap_next h0 hlt (by omega)
  have hstep := fun h => members_step (l := l) (a := x) (j := j) h hlt
  have e1 := members_f hm.okA hyo
  have e2 := root_f hm.okA hyo
  have e3 := same_f hm.okA hyo hxo
  rw [members_all hyx] at e1
  rw [show rootL l (rdOf ByteArray.empty (members l x) j) = rootL l x from hyx] at e2 e3
  rw [sameB_true rfl] at e3
  refine Ev.step (f := fun k => (flagstoneref1_Same.f k (members l x) (members l x)).bind fun b => if b = true then flagstonelaw26_IdentityParts.l1 k l idsC i (members l x) f (j + 1) else none) (fun k => ?_) (Ev.bind (same_ev _ (by omega)) ?_)
  · simp only [flagstonelaw26_IdentityParts.j2]
    by_cases hp : j > 0
    · have hw1 : wrap64 (j - 1) = j - 1 := by unfold wrap64; omega
      rw [if_pos hp, if_pos h0, if_pos hlt, hw1, if_pos (by omega), if_pos (by omega), if_pos (less_true (hstep hp)), e1]
      simp only [Option.bind_some]
      rw [e2, hx, e3, hz, hw]
      simp only [Option.bind_some]
      rw [if_pos (show (0 : Int) < ((members l x).length : Int) by omega), if_pos hi0, if_pos hi1]
      simp
    · rw [if_neg hp, if_pos h0, if_pos hlt, e1]
      simp only [Option.bind_some]
      rw [e2, hx, e3, hz, hw]
      simp only [Option.bind_some]
      rw [if_pos (show (0 : Int) < ((members l x).length : Int) by omega), if_pos hi0, if_pos hi1]
      simp
  · simp only [if_true]
    exact hn

theorem part_in {l : List S28} (hm : Made l) {i : Int} (hi0 : 0 ≤ i) (hi1 : i < (idsC.length : Int)) {x : ByteArray} (hx : rdOf ByteArray.empty idsC i = x) (hout : Ev (fun k => flagstonelaw26_IdentityParts.l0 k l idsC (i + 1)) true) (d : Nat) :
    ∀ (j : Int) (f : Bool), 0 ≤ j → j ≤ ((members l x).length : Int) → ((members l x).length : Int) - j = d → (f = true ∨ x ∈ (members l x).drop j.toNat) → Ev (fun k => flagstonelaw26_IdentityParts.l1 k l idsC i (members l x) f j) true := by
  have hlen := members_length (l := l) (by have := hm.1; omega) x
  have h6 : idsC.length = 6 := rfl
  induction d with
  | zero =>
    intro j f h0 h1 hd hf
    have hf2 : f = true := by
      rcases hf with h | h
      · exact h
      · rw [List.drop_eq_nil_of_le (by omega)] at h; cases h
    refine Ev.step (fun k => ?_) hout
    simp only [flagstonelaw26_IdentityParts.l1]
    rw [if_neg (by omega), if_pos hf2, wrap_next hi0 hi1 (by omega)]
  | succ d ih =>
    intro j f h0 h1 hd hf
    have hlt : j < ((members l x).length : Int) := by omega
    by_cases hft : f = true
    · refine Ev.step (fun k => ?_) (part_j hm hi0 hi1 hx true h0 hlt (ih (j + 1) true (by omega) (by omega) (by omega) (.inl rfl)))
      simp only [flagstonelaw26_IdentityParts.l1]
      rw [if_pos hlt, if_pos hft]
    · have hd2 : (members l x).drop j.toNat = rdOf ByteArray.empty (members l x) j :: (members l x).drop (j + 1).toNat := by
        rw [List.drop_eq_getElem_cons (by omega), show (j + 1).toNat = j.toNat + 1 by omega]
        simp [rdOf, List.getD_eq_getElem?_getD, List.getElem?_eq_getElem (show j.toNat < (members l x).length by omega)]
      refine Ev.step (fun k => ?_) (part_j hm hi0 hi1 hx ((rdOf ByteArray.empty (members l x) j).toList == x.toList) h0 hlt (ih (j + 1) _ (by omega) (by omega) (by omega) ?_))
      · simp only [flagstonelaw26_IdentityParts.l1]
        rw [if_pos hlt, if_neg hft, if_pos h0, if_pos hi0, if_pos hi1, hx]
      · rcases hf with h | h
        · exact absurd h hft
        · rw [hd2] at h
          rcases List.mem_cons.1 h with e | e
          · left; rw [← e]; simp
          · exact .inr e
theorem part_links {l : List S28} (hm : Made l) (d : Nat) : ∀ i : Int, 0 ≤ i → i ≤ (l.length : Int) → (l.length : Int) - i = d → Ev (fun k => flagstonelaw26_IdentityParts.l2 k l i) true := by
  have h6 := hm.1
  induction d with
  | zero =>
    intro i h0 h1 hd
    refine Ev.step (f := fun _ => some true) (fun k => ?_) (Ev.now true)
    simp only [flagstonelaw26_IdentityParts.l2]
    rw [if_neg (by omega)]
  | succ d ih =>
    intro i h0 h1 hd
    have hlt : i < (l.length : Int) := by omega
    have hk := rd_memI h0 hlt
    have hok := hm.okA.2 _ hk
    refine Ev.step (fun k => ?_) (ih (i + 1) (by omega) (by omega) (by omega))
    simp only [flagstonelaw26_IdentityParts.l2]
    rw [if_pos hlt, if_pos h0, same_f hm.okA hok.1 hok.2, sameB_true (conn_link hk), wrap_next h0 hlt (by omega)]
    simp
theorem part_out {l : List S28} (hm : Made l) (d : Nat) : ∀ i : Int, 0 ≤ i → i ≤ (idsC.length : Int) → (idsC.length : Int) - i = d → Ev (fun k => flagstonelaw26_IdentityParts.l0 k l idsC i) true := by
  induction d with
  | zero =>
    intro i h0 h1 hd
    refine Ev.step (fun k => ?_) (part_links hm l.length 0 (by omega) (by omega) (by omega))
    simp only [flagstonelaw26_IdentityParts.l0]
    rw [if_neg (by omega)]
  | succ d ih =>
    intro i h0 h1 hd
    have hlt : i < (idsC.length : Int) := by omega
    have hx := idsC_ok _ (rdS_ids h0 hlt)
    refine Ev.step (fun k => ?_) (part_in hm h0 hlt rfl (ih (i + 1) (by omega) (by omega) (by omega)) (members l (rdOf ByteArray.empty idsC i)).length 0 false (by omega) (by omega) (by omega) (.inr (by simpa using mem_members.2 (Conn.refl _ _))))
    simp only [flagstonelaw26_IdentityParts.l0]
    rw [if_pos hlt, if_pos h0, members_f hm.okA hx]
    simp only [Option.bind_some]

theorem IdentityParts : flagstonelaw26_IdentityParts.Pure := by
  intro l0 _ _ hw
  refine Ev.rounds ?_
  unfold flagstonelaw26_IdentityParts.f
  refine Ev.bind awake_ev ?_
  simp only [if_true]
  by_cases h : (l0.length : Int) > 60
  · simp only [if_pos h]
    exact Ev.now true
  · simp only [if_neg h]
    obtain ⟨r, hr, hm⟩ := links_made (okU_of (by omega) hw) true
    rw [hr, ids_f]
    simp only [Option.bind_some]
    exact part_out hm idsC.length 0 (by omega) (by omega) (by omega)
end Go.Proofs.Ytmhcpaohligjaaa.Pure
