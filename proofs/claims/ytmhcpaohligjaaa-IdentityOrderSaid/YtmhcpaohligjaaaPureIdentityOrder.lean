/-
  IdentityOrder, as a statement over lists: Members does not depend on the order, the direction and the repetition of links, nor on links that Forest leaves out. No condition.
-/
import Derived.Test.YtmhcpaohligjaaaQO
import Derived.Test.YtmhcpaohligjaaaE4
namespace Go.Proofs.Ytmhcpaohligjaaa.Pure
open Go.RowKit Go.Proofs.Ytmhcpaohligjaaa.Q Go.Proofs.YtmhcpaohligjaaaW.PrintWords Go.Proofs.YtmhcpaohligjaaaW.PrintLast
set_option linter.unusedVariables false

/-- 'o' holds the links of 'l' from i + 1 on, turned or not, once or twice -/
structure Inv (l o : List S28) (i : Int) : Prop where
  sub : ∀ k ∈ o, Adj l k.f0 k.f1
  cov : ∀ k ∈ l.drop (i + 1).toNat, Adj o k.f0 k.f1
  len : o.length + 2 * (i + 1).toNat ≤ 2 * l.length
theorem Inv.more {l o o' : List S28} {i : Int} (h : Inv l o i) (h0 : 0 ≤ i) (h1 : i < (l.length : Int)) (k' : S28) (hk : Adj [rd_T28 l i] k'.f0 k'.f1) (ho : ∀ k ∈ o', k ∈ o ∨ k = k') (ho2 : ∀ k ∈ o, k ∈ o') (ho3 : k' ∈ o') (hlen : o'.length ≤ o.length + 2) : Inv l o' (i - 1) := by
  have hmem := rd_memI h0 h1
  have hl : Adj l k'.f0 k'.f1 := hk.mono (fun k hk => by simp at hk; rw [hk]; exact hmem)
  refine ⟨fun k hko => ?_, fun k hkl => ?_, ?_⟩
  · rcases ho k hko with e | e
    · exact h.sub k e
    · rw [e]; exact hl
  · have hd : l.drop (i - 1 + 1).toNat = rd_T28 l i :: l.drop (i + 1).toNat := by
      rw [show i - 1 + 1 = i by omega]; exact drop_cons28 h0 h1
    rw [hd] at hkl
    rcases List.mem_cons.1 hkl with e | e
    · rw [e]
      have h2 : Adj o' k'.f0 k'.f1 := Adj.of_mem ho3
      obtain ⟨k2, hk2, h3⟩ := hk
      simp at hk2
      subst hk2
      rcases h3 with ⟨e1, e2⟩ | ⟨e1, e2⟩
      · rw [e1, e2]; exact h2
      · rw [e1, e2]; exact h2.symm
    · exact (h.cov k e).mono ho2
  · have := h.len
    omega
theorem Inv.conn {l o : List S28} (h : Inv l o (-1)) (x y : ByteArray) : Conn o x y ↔ Conn l x y := by
  constructor
  · refine conn_adj (fun x y ha => ?_)
    obtain ⟨k, hk, ⟨rfl, rfl⟩ | ⟨rfl, rfl⟩⟩ := ha
    · exact h.sub k hk
    · exact (h.sub k hk).symm
  · refine conn_adj (fun x y ha => ?_)
    obtain ⟨k, hk, ⟨rfl, rfl⟩ | ⟨rfl, rfl⟩⟩ := ha
    · exact h.cov k (by simpa using hk)
    · exact (h.cov k (by simpa using hk)).symm
theorem Inv.okA {l o : List S28} {i : Int} (h : Inv l o i) (hm : Made l) : okA o := by
  have h1 := h.len
  have h2 := hm.1
  refine ⟨by omega, fun k hk => ?_⟩
  obtain ⟨j, hj, ⟨e1, e2⟩ | ⟨e1, e2⟩⟩ := h.sub k hk
  · rw [← e1, ← e2]; exact hm.okA.2 j hj
  · rw [← e1, ← e2]; exact (hm.okA.2 j hj).symm

theorem order_in {l o : List S28} (hm : Made l) (h : Inv l o (-1)) (d : Nat) : ∀ i : Int, 0 ≤ i → i ≤ (idsC.length : Int) → (idsC.length : Int) - i = d → Ev (fun k => flagstonelaw26_IdentityOrder.l1 k l o idsC i) true := by
  have h6 : idsC.length = 6 := rfl
  induction d with
  | zero =>
    intro i h0 h1 hd
    refine Ev.step (f := fun _ => some true) (fun k => ?_) (Ev.now true)
    simp only [flagstonelaw26_IdentityOrder.l1]
    rw [if_neg (by omega)]
  | succ d ih =>
    intro i h0 h1 hd
    have hlt : i < (idsC.length : Int) := by omega
    have hw := wrap_next h0 hlt (by omega)
    have hx := idsC_ok _ (rdS_ids h0 hlt)
    generalize hxx : rdOf ByteArray.empty idsC i = x at hx
    have hlen := members_length (l := l) (by have := hm.1; omega) x
    obtain ⟨hz0, hz⟩ := members_zero l x
    have e1 := members_f hm.okA hx
    have e2 := members_f (h.okA hm) hx
    have e3 := members_f hm.forest.okA hx
    have e4 := root_f (h.okA hm) hx
    rw [members_congr (l' := l) (b := x) (fun z => h.conn z x)] at e2
    rw [members_congr (l' := l) (b := x) (fun z => forest_conn l z x)] at e3
    rw [root_congr (l' := l) (fun y z => h.conn y z)] at e4
    have hb := same_ev (members l x) (by omega)
    refine Ev.step (f := fun k => (flagstoneref1_Same.f k (members l x) (members l x)).bind fun b => if b = true then ((flagstoneref1_Same.f k (members l x) (members l x)).bind fun c => if c = true then flagstonelaw26_IdentityOrder.l1 k l o idsC (i + 1) else none) else none) (fun k => ?_) (Ev.bind hb ?_)
    · simp only [flagstonelaw26_IdentityOrder.l1]
      rw [if_pos hlt, if_pos h0, hxx, e1, hw]
      simp only [Option.bind_some]
      rw [if_neg (show ¬ ((members l x).length : Int) = 0 by omega), e2, forest_f hm.okA]
      simp only [Option.bind_some]
      rw [e3, e4]
      simp only [Option.bind_some]
      rw [if_pos (show (0 : Int) < ((members l x).length : Int) by omega), hz, if_pos rfl]
    · simp only [if_true]
      refine Ev.bind hb ?_
      simp only [if_true]
      exact ih (i + 1) (by omega) (by omega) (by omega)

theorem order_out {l : List S28} (hm : Made l) (a1 a2 : Int) (d : Nat) : ∀ (i : Int) (o : List S28), i < (l.length : Int) → i + 1 = d → Inv l o i → Ev (fun k => flagstonelaw26_IdentityOrder.l0 k a1 a2 l o i) true := by
  have h30 := hm.1
  induction d with
  | zero =>
    intro i o h1 hd h
    have hi : i = -1 := by omega
    subst hi
    refine Ev.step (fun k => ?_) (order_in hm h idsC.length 0 (by omega) (by omega) (by omega))
    simp only [flagstonelaw26_IdentityOrder.l0]
    rw [if_neg (by omega), ids_f]
    simp only [Option.bind_some]
  | succ d ih =>
    intro i o h1 hd h
    have h0 : 0 ≤ i := by omega
    have hw : wrap64 (i - 1) = i - 1 := by unfold wrap64; omega
    have hlen := h.len
    generalize hk : rd_T28 l i = k
    have ha : Adj [rd_T28 l i] k.f0 k.f1 := by rw [hk]; exact Adj.of_mem (by simp)
    have once : ∀ k', Adj [rd_T28 l i] k'.f0 k'.f1 → Inv l (o ++ [k']) (i - 1) := fun k' hk' =>
      h.more h0 h1 k' hk' (fun x hx => by simpa using hx) (fun x hx => by simp [hx]) (by simp) (by simp)
    have twice : ∀ k', Adj [rd_T28 l i] k'.f0 k'.f1 → Inv l (o ++ [k'] ++ [k']) (i - 1) := fun k' hk' =>
      h.more h0 h1 k' hk' (fun x hx => by simpa using hx) (fun x hx => by simp [hx]) (by simp) (by simp)
    by_cases c3 : Int.tmod (wrap64 (i + wrap64 a1)) 3 = 0 <;> by_cases c4 : Int.tmod (wrap64 (i + wrap64 a2)) 4 = 0
    · refine Ev.step (fun n => ?_) (ih (i - 1) _ (by omega) (by omega) (twice ⟨k.f1, k.f0, k.f2⟩ ha.symm))
      simp only [flagstonelaw26_IdentityOrder.l0, Option.bind_some]
      rw [if_pos h0, if_pos h0, if_pos h1, if_pos c3, if_pos (by omega), if_pos c4, if_pos (by simp; omega), hk, hw]
    · refine Ev.step (fun n => ?_) (ih (i - 1) _ (by omega) (by omega) (once ⟨k.f1, k.f0, k.f2⟩ ha.symm))
      simp only [flagstonelaw26_IdentityOrder.l0, Option.bind_some]
      rw [if_pos h0, if_pos h0, if_pos h1, if_pos c3, if_pos (by omega), if_neg c4, hk, hw]
    · refine Ev.step (fun n => ?_) (ih (i - 1) _ (by omega) (by omega) (twice k ha))
      simp only [flagstonelaw26_IdentityOrder.l0, Option.bind_some]
      rw [if_pos h0, if_pos h0, if_pos h1, if_neg c3, if_pos (by omega), if_pos c4, if_pos (by simp; omega), hk, hw]
    · refine Ev.step (fun n => ?_) (ih (i - 1) _ (by omega) (by omega) (once k ha))
      simp only [flagstonelaw26_IdentityOrder.l0, Option.bind_some]
      rw [if_pos h0, if_pos h0, if_pos h1, if_neg c3, if_pos (by omega), if_neg c4, hk, hw]

theorem IdentityOrder : flagstonelaw26_IdentityOrder.Pure := by
  intro l0 a1 a2 _ _ hw ha1 ha2
  refine Ev.rounds ?_
  unfold flagstonelaw26_IdentityOrder.f
  refine Ev.bind awake_ev ?_
  simp only [if_true]
  by_cases h : (l0.length : Int) > 60
  · simp only [if_pos h]
    exact Ev.now true
  · simp only [if_neg h]
    obtain ⟨r, hr, hm⟩ := links_made (okU_of (by omega) hw) true
    have h30 := hm.1
    have hw : wrap64 ((r.length : Int) - 1) = (r.length : Int) - 1 := by unfold wrap64; omega
    rw [hr]
    simp only [Option.bind_some]
    rw [hw]
    refine order_out hm a1 a2 r.length _ [] (by omega) (by omega) ⟨fun k hk => (by cases hk), fun k hk => ?_, ?_⟩
    · rw [List.drop_eq_nil_of_le (by omega)] at hk; cases hk
    · simp
end Go.Proofs.Ytmhcpaohligjaaa.Pure
