/-
  IdentityTimes, as a statement over lists: what belongs together by the links up to a time does so by those up to a later one. No condition.
-/
import Derived.Test.YtmhcpaohligjaaaQ11
import Derived.Test.YtmhcpaohligjaaaE3
namespace Go.Proofs.Ytmhcpaohligjaaa.Pure
open Go.RowKit Go.Proofs.Ytmhcpaohligjaaa.Q Go.Proofs.YtmhcpaohligjaaaW.PrintWords Go.Proofs.YtmhcpaohligjaaaW.PrintLast Go.Proofs.YtmhcpaohligjaaaW.PrintMore
set_option linter.unusedVariables false
set_option linter.unusedSimpArgs false

def untilL (l : List S28) (t : Int) : List S28 := l.filter fun k => decide (k.f2 ≤ t)
theorem until_loop (l : List S28) (t : Int) (hl : l.length ≤ 1000) (d : Nat) : ∀ (i : Int), 0 ≤ i → i ≤ l.length → (l.length : Int) - i = d → Ev (fun k => identity_Until.l0 k t (untilL (l.take i.toNat) t) l (l.length : Int) i) (untilL l t) := by
  induction d with
  | zero =>
    intro i h0 h1 hd
    have hi : i = (l.length : Int) := by omega
    refine Ev.step (f := fun _ => some (untilL l t)) (fun k => ?_) (Ev.now _)
    simp only [identity_Until.l0]
    rw [if_neg (by omega), hi, Int.toNat_natCast, List.take_length]
  | succ d ih =>
    intro i h0 h1 hd
    have hlt : i < (l.length : Int) := by omega
    have hw : wrap64 (i + 1) = i + 1 := by unfold wrap64; omega
    have ht : (i + 1).toNat = i.toNat + 1 := by omega
    have htk : l.take (i + 1).toNat = l.take i.toNat ++ [rd_T28 l i] := by rw [ht, take_snoc28 (by omega), ← rd_nat h0]
    have hlen : (untilL (l.take i.toNat) t).length ≤ 1000 := by
      have h1 := List.length_filter_le (fun k : S28 => decide (k.f2 ≤ t)) (l.take i.toNat)
      unfold untilL
      simp at h1 ⊢
      omega
    refine Ev.step (f := fun k => identity_Until.l0 k t (untilL (l.take (i + 1).toNat) t) l (l.length : Int) (i + 1)) (fun k => ?_) (ih (i + 1) (by omega) (by omega) (by omega))
    simp only [identity_Until.l0]
    rw [if_pos hlt, if_pos h0, if_pos hlt, hw, htk]
    unfold untilL
    rw [List.filter_append]
    by_cases hc : (rd_T28 l i).f2 ≤ t
    · rw [if_pos hc, if_pos (by unfold untilL at hlen; omega)]
      simp [List.filter_cons, hc]
    · rw [if_neg hc]
      simp [List.filter_cons, hc]
theorem until_ev (l : List S28) (t : Int) (hl : l.length ≤ 1000) : Ev (fun k => identity_Until.f k l t) (untilL l t) := by
  refine Ev.congr (fun k => ?_) (until_loop l t hl l.length 0 (by omega) (by omega) (by omega))
  rfl
theorem Made.until_ {l : List S28} (h : Made l) (t : Int) : Made (untilL l t) :=
  ⟨Nat.le_trans (List.length_filter_le _ _) h.1, fun k hk => h.2 k (List.mem_filter.1 hk).1⟩
theorem until_sub (l : List S28) {s t : Int} (h : s ≤ t) : (untilL l s).length ≤ (untilL l t).length ∧ ∀ k ∈ untilL l s, k ∈ untilL l t := by
  constructor
  · unfold untilL
    rw [← List.countP_eq_length_filter, ← List.countP_eq_length_filter]
    exact List.countP_mono_left (fun k _ hk => by simp at hk ⊢; omega)
  · intro k hk
    obtain ⟨h1, h2⟩ := List.mem_filter.1 hk
    exact List.mem_filter.2 ⟨h1, by simp at h2 ⊢; omega⟩

theorem inner {x7 x8 x9 : List S28} (h8 : Made x8) (h9 : Made x9) (hs : ∀ x y, Conn x8 x y → Conn x9 x y) (i : Int) (hi0 : 0 ≤ i) (hi1 : i < (idsC.length : Int))
    (hnext : Ev (fun k => flagstonelaw26_IdentityTimes.l0 k x7 x8 x9 idsC (i + 1)) true) (d : Nat) : ∀ (j : Int), 0 ≤ j → j ≤ (idsC.length : Int) → (idsC.length : Int) - j = d →
    Ev (fun k => flagstonelaw26_IdentityTimes.l1 k x7 x8 x9 idsC i j) true := by
  have h6 : idsC.length = 6 := rfl
  induction d with
  | zero =>
    intro j h0 h1 hd
    have hw : wrap64 (i + 1) = i + 1 := by unfold wrap64; omega
    refine Ev.step (fun k => ?_) hnext
    simp only [flagstonelaw26_IdentityTimes.l1]
    rw [if_neg (by omega), hw]
  | succ d ih =>
    intro j h0 h1 hd
    have hlt : j < (idsC.length : Int) := by omega
    have hw : wrap64 (j + 1) = j + 1 := by unfold wrap64; omega
    have hx := idsC_ok _ (rdS_ids hi0 hi1)
    have hy := idsC_ok _ (rdS_ids h0 hlt)
    refine Ev.step (fun k => ?_) (ih (j + 1) (by omega) (by omega) (by omega))
    simp only [flagstonelaw26_IdentityTimes.l1]
    rw [if_pos hlt, if_pos hi0, if_pos hi1, if_pos h0, same_f h8.okA hx hy, same_f h9.okA hx hy, hw]
    simp only [Option.bind_some]
    by_cases hc : rootL x8 (rdOf ByteArray.empty idsC i) = rootL x8 (rdOf ByteArray.empty idsC j)
    · rw [sameB_true hc, sameB_true (hs _ _ hc)]
      simp
    · rw [sameB_false hc]
      simp
theorem outer {x7 x8 x9 : List S28} (h8 : Made x8) (h9 : Made x9) (hs : ∀ x y, Conn x8 x y → Conn x9 x y) (hl1 : x8.length ≤ x9.length) (hl2 : x9.length ≤ x7.length) (d : Nat) : ∀ (i : Int), 0 ≤ i → i ≤ (idsC.length : Int) → (idsC.length : Int) - i = d →
    Ev (fun k => flagstonelaw26_IdentityTimes.l0 k x7 x8 x9 idsC i) true := by
  induction d with
  | zero =>
    intro i h0 h1 hd
    refine Ev.step (f := fun _ => some true) (fun k => ?_) (Ev.now true)
    simp only [flagstonelaw26_IdentityTimes.l0]
    rw [if_neg (by omega), if_pos (by omega)]
    simp
    omega
  | succ d ih =>
    intro i h0 h1 hd
    have hlt : i < (idsC.length : Int) := by omega
    refine Ev.step (fun k => ?_) (inner h8 h9 hs i h0 hlt (ih (i + 1) (by omega) (by omega) (by omega)) idsC.length 0 (by omega) (by omega) (by omega))
    simp only [flagstonelaw26_IdentityTimes.l0]
    rw [if_pos hlt]
theorem both {x7 x8 x9 : List S28} (h8 : Made x8) (h9 : Made x9) (hs : ∀ x y, Conn x8 x y → Conn x9 x y) (hl1 : x8.length ≤ x9.length) (hl2 : x9.length ≤ x7.length) : Ev (fun k => flagstonelaw26_IdentityTimes.j0 k x7 x8 x9) true := by
  refine Ev.step (fun k => ?_) (outer h8 h9 hs hl1 hl2 idsC.length 0 (by omega) (by omega) (by omega))
  simp only [flagstonelaw26_IdentityTimes.j0]
  rw [ids_f]
  rfl

theorem IdentityTimes : flagstonelaw26_IdentityTimes.Pure := by
  intro l0 a1 a2 _ _ hw _ _
  refine Ev.rounds ?_
  unfold flagstonelaw26_IdentityTimes.f
  refine Ev.bind awake_ev ?_
  simp only [if_true]
  by_cases h : (l0.length : Int) > 60
  · simp only [if_pos h]
    exact Ev.now true
  · simp only [if_neg h]
    obtain ⟨r, hr, hm⟩ := links_made (okU_of (by omega) hw) false
    rw [hr]
    simp only [Option.bind_some]
    generalize Int.tmod (wrap64 (mn a1 a2)) 40 = s
    generalize Int.tmod (wrap64 (mx a1 a2)) 40 = t
    have hr2 : r.length ≤ 1000 := by have := hm.1; omega
    refine Ev.bind (until_ev r s hr2) (Ev.bind (until_ev r t hr2) ?_)
    have key : ∀ u v : Int, u ≤ v → Ev (fun k => flagstonelaw26_IdentityTimes.j0 k r (untilL r u) (untilL r v)) true := fun u v huv =>
      both (Made.until_ hm u) (Made.until_ hm v) (fun x y c => conn_mono (until_sub r huv).2 c) (until_sub r huv).1 (List.length_filter_le _ _)
    by_cases hst : s > t
    · simp only [if_pos hst]
      exact key t s (by omega)
    · simp only [if_neg hst]
      exact key s t (by omega)
end Go.Proofs.Ytmhcpaohligjaaa.Pure
