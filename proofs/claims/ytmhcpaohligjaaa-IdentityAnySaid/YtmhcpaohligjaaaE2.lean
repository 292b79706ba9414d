/-
  Made links: few, between the six ids. The example of the chapter. No condition.
-/
import Derived.Test.YtmhcpaohligjaaaE1
import Derived.Test.YtmhcpaohligjaaaD3
import Derived.Test.YtmhcpaohligjaaaT4
namespace Go.Proofs.Ytmhcpaohligjaaa.Q
open Go.RowKit Go.Proofs.YtmhcpaohligjaaaW.PrintWords Go.Proofs.YtmhcpaohligjaaaW.PrintLast Go.Proofs.Ytmhcpaohligjaaa.M
set_option linter.unusedVariables false

/-- few links between the ids of made data -/
def Made (l : List S28) : Prop := l.length ≤ 30 ∧ ∀ k ∈ l, k.f0 ∈ idsC ∧ k.f1 ∈ idsC
theorem idN_mem {n : Int} (h0 : 0 ≤ n) (h1 : n < 6) : idN n ∈ idsC := by
  unfold idN
  have e : n = 0 ∨ n = 1 ∨ n = 2 ∨ n = 3 ∨ n = 4 ∨ n = 5 := by omega
  rcases e with rfl | rfl | rfl | rfl | rfl | rfl <;> simp [rdOf, idsC]
theorem linksN_made {l : List Int} (hl : ∀ x ∈ l, 0 ≤ x ∧ x ≤ 255) (loose : Bool) : ∀ (f : Nat) (i t : Int) (out : List S28), 0 ≤ i → i ≤ l.length → (l.length : Int) - i < f → Made out → ∃ r, linksN l loose f i t out = some r ∧ Made r
  | 0, i, t, out, h0, h1, hf, hm => by omega
  | f + 1, i, t, out, h0, h1, hf, hm => by
    simp only [linksN]
    by_cases hc : i < l.length ∧ out.length < 30
    · rw [if_pos hc]
      obtain ⟨b1, b2, b3, b4⟩ := nextV_bound hl i 6 h0 h1 (by omega)
      obtain ⟨b5, b6, b7, b8⟩ := nextV_bound hl _ 6 b3 b4 (by omega)
      obtain ⟨b9, b10, b11, b12⟩ := nextV_bound hl _ 3 b7 b8 (by omega)
      have hmono : ∀ j n : Int, 0 ≤ j → j ≤ (nextV l j n).2 := by
        intro j n hj
        unfold nextV
        split
        · simp; omega
        · exact Int.le_refl _
      have e1 : i + 1 ≤ (nextV l i 6).2 := by unfold nextV; rw [if_pos hc.1]; exact Int.le_refl _
      have e2 := hmono (nextV l i 6).2 6 b3
      have e3 := hmono (nextV l (nextV l i 6).2 6).2 3 b7
      have sb := second_bound loose ⟨b1, b2⟩ ⟨b5, b6⟩
      refine linksN_made hl loose f _ _ _ b11 b12 (by omega) ⟨by simp; omega, fun k hk => ?_⟩
      rcases List.mem_append.1 hk with hk | hk
      · exact hm.2 k hk
      · simp at hk
        subst hk
        exact ⟨idN_mem b1 b2, idN_mem sb.1 sb.2⟩
    · rw [if_neg hc]
      exact ⟨out, rfl, hm⟩
theorem okU_of {l : List Int} (h : (l.length : Int) ≤ 60) (hw : ∀ x ∈ l, (Lit.int .u8 x).wf = true) : okU l := by
  refine ⟨by omega, fun x hx => ?_⟩
  have := hw x hx
  simp [Lit.wf, IntKind.min, IntKind.max, IntKind.signed, IntKind.bits] at this
  exact this
theorem links_made {l : List Int} (h : okU l) (loose : Bool) : ∃ r, flagstonedata_Links.f l loose = some r ∧ Made r := by
  obtain ⟨r, hr, hm⟩ := linksN_made h.2 loose (l.length + 1) 0 0 [] (by omega) (by omega) (by omega) ⟨by simp, fun k hk => by cases hk⟩
  refine ⟨r, ?_, hm⟩
  unfold flagstonedata_Links.f
  rw [grd_pos h]
  exact hr
theorem idsC_ok : ∀ x ∈ idsC, okS x := by
  intro x hx
  unfold okS maxLen
  have : ∀ y ∈ idsC, y.size ≤ 3 := by decide
  have := this x hx
  omega
theorem idsC_nodup : idsC.Nodup := by decide
theorem Made.okA {l : List S28} (h : Made l) : okA l := ⟨by have := h.1; omega, fun k hk => ⟨idsC_ok _ (h.2 k hk).1, idsC_ok _ (h.2 k hk).2⟩⟩
theorem root_f {l : List S28} (h : okA l) {a : ByteArray} (ha : okS a) : identity_Root.f l a = some (rootL l a) := grd_pos ⟨h, ha⟩ _
theorem same_f {l : List S28} (h : okA l) {a b : ByteArray} (ha : okS a) (hb : okS b) : identity_Same.f l a b = some (sameB (rootL l a) (rootL l b)) := grd_pos ⟨h, ha, hb⟩ _
theorem forest_f {l : List S28} (h : okA l) : identity_Forest.f l = some (forest l) := grd_pos h _
theorem members_f {l : List S28} (h : okA l) {a : ByteArray} (ha : okS a) : identity_Members.f l a = some (members l a) := grd_pos ⟨h, ha⟩ _
theorem ids_f : flagstonedata_Ids.f = some idsC := rfl
theorem Made.forest {l : List S28} (h : Made l) : Made (forest l) := ⟨Nat.le_trans (forestL_length l _) h.1, fun k hk => h.2 k (forestL_sub l _ k hk)⟩
theorem rdS_ids {i : Int} (h0 : 0 ≤ i) (h1 : i < (idsC.length : Int)) : rdOf ByteArray.empty idsC i ∈ idsC := rdS_mem h0 h1
end Go.Proofs.Ytmhcpaohligjaaa.Q
