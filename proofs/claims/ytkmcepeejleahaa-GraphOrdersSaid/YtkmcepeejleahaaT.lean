/-
  Sorted lists of strings, each once. No condition.
-/
import Derived.Test.YtkmcepeejleahaaD3
namespace Go.Proofs.Ytkmcepeejleahaa.Q
open Go.RowKit Go.Proofs.YtkmcepeejleahaaW.PrintWords Go.Proofs.YtkmcepeejleahaaW.PrintLast Go.Proofs.Ytkmcepeejleahaa.M
set_option linter.unusedVariables false

def ltS (x y : ByteArray) : Prop := x.data.toList < y.data.toList
theorem ltS_irrefl (x : ByteArray) : ¬ ltS x x := List.lt_irrefl _
theorem ltS_trans {x y z : ByteArray} (h : ltS x y) (k : ltS y z) : ltS x z := List.lt_trans h k
theorem ltS_total (x y : ByteArray) : ltS x y ∨ x = y ∨ ltS y x := by
  rcases Classical.em (ltS x y) with h | h
  · exact .inl h
  rcases Classical.em (ltS y x) with k | k
  · exact .inr (.inr k)
  refine .inr (.inl ?_)
  have e : x.data.toList = y.data.toList := List.le_antisymm (List.not_lt.1 k) (List.not_lt.1 h)
  cases x; cases y; simp at e; rw [e]
theorem ltS_asymm {x y : ByteArray} (h : ltS x y) : ¬ ltS y x := fun k => ltS_irrefl _ (ltS_trans h k)
def sortD (l : List ByteArray) : List ByteArray := (Lib.compact ((l.map fun s => s.data.toList).mergeSort fun x y => decide (x ≤ y))).map fun x => ⟨x.toArray⟩
theorem compact_sorted {α : Type} [Inhabited α] [DecidableEq α] (lt : α → α → Prop) (irr : ∀ a, ¬ lt a a) (tr : ∀ {a b c}, lt a b → lt b c → lt a c) (xs : List α)
    (hs : xs.Pairwise fun a b => a = b ∨ lt a b) : ∀ m, m ≤ xs.length → (∀ x, x ∈ Lib.compactUpTo xs.toArray m ↔ x ∈ xs.take m) ∧ (Lib.compactUpTo xs.toArray m).Pairwise lt
  | 0, _ => by simp [Lib.compactUpTo]
  | m + 1, h => by
    obtain ⟨i1, i2⟩ := compact_sorted lt irr tr xs hs m (by omega)
    have hg : ∀ i (hi : i < xs.length), xs.toArray[i]! = xs[i] := fun i hi => by
      rw [getElem!_pos _ i (by simpa using hi)]; simp
    have hp := List.pairwise_iff_getElem.1 hs
    rw [Lib.compactUpTo_succ, List.take_succ_eq_append_getElem (by omega), hg m (by omega)]
    cases hk : Lib.keeps xs.toArray m with
    | true =>
      simp only [if_true]
      refine ⟨fun x => by rw [List.mem_append, List.mem_append, i1], ?_⟩
      rw [List.pairwise_append]
      refine ⟨i2, by simp, fun y hy z hz => ?_⟩
      simp at hz
      subst hz
      rw [i1] at hy
      obtain ⟨i, hi, rfl⟩ := List.getElem_of_mem hy
      simp at hi
      rw [List.getElem_take]
      have hm0 : m ≠ 0 := by omega
      have hne : xs[m] ≠ xs[m - 1] := by
        unfold Lib.keeps at hk
        simp only [decide_eq_true_eq] at hk
        rcases hk with hk | hk
        · exact absurd hk hm0
        · rwa [hg m (by omega), hg (m - 1) (by omega)] at hk
      have h1 : xs[m - 1] = xs[m] ∨ lt xs[m - 1] xs[m] := hp (m - 1) m (by omega) (by omega) (by omega)
      have h2 : lt xs[m - 1] xs[m] := by
        rcases h1 with h1 | h1
        · exact absurd h1.symm hne
        · exact h1
      by_cases e : i = m - 1
      · subst e; exact h2
      · have h3 : xs[i] = xs[m - 1] ∨ lt xs[i] xs[m - 1] := hp i (m - 1) (by omega) (by omega) (by omega)
        rcases h3 with h3 | h3
        · rw [h3]; exact h2
        · exact tr h3 h2
    | false =>
      simp only [Bool.false_eq_true, if_false, List.append_nil]
      refine ⟨fun x => ?_, i2⟩
      rw [i1, List.mem_append]
      constructor
      · exact .inl
      · rintro (h1 | h1)
        · exact h1
        · simp at h1
          subst h1
          have hm0 : m ≠ 0 := by
            rintro rfl
            simp [Lib.keeps] at hk
          have he : xs[m] = xs[m - 1] := by
            unfold Lib.keeps at hk
            simp only [decide_eq_false_iff_not, not_or] at hk
            have := Decidable.of_not_not hk.2
            rwa [hg m (by omega), hg (m - 1) (by omega)] at this
          rw [he]
          exact List.mem_iff_getElem.2 ⟨m - 1, by simp; omega, by simp⟩

theorem le_bytes {a b : List UInt8} (h : a ≤ b) : a = b ∨ a < b := by
  rcases List.le_iff_lt_or_eq.1 h with h | h
  · exact .inr h
  · exact .inl h
theorem sorted_bytes (l : List (List UInt8)) : (l.mergeSort fun x y => decide (x ≤ y)).Pairwise fun a b => a = b ∨ a < b := by
  have h := List.pairwise_mergeSort (le := fun x y : List UInt8 => decide (x ≤ y)) (fun a b c h1 h2 => by simp at h1 h2 ⊢; exact List.le_trans h1 h2) (fun a b => by simp; exact List.le_total a b) l
  exact h.imp (fun h => le_bytes (by simpa using h))
theorem mem_bs {s : ByteArray} {l : List ByteArray} : s.data.toList ∈ bs l ↔ s ∈ l := by
  unfold bs
  constructor
  · intro h
    obtain ⟨t, ht, e⟩ := List.mem_map.1 h
    have : t = s := by cases t; cases s; simp at e; rw [e]
    exact this ▸ ht
  · intro h; exact List.mem_map.2 ⟨s, h, rfl⟩
theorem mem_sb {s : ByteArray} {l : List (List UInt8)} : s ∈ sb l ↔ s.data.toList ∈ l := by
  unfold sb
  constructor
  · intro h
    obtain ⟨t, ht, rfl⟩ := List.mem_map.1 h
    simpa using ht
  · intro h; exact List.mem_map.2 ⟨_, h, by simp⟩
theorem sortD_eq (l : List ByteArray) : sortD l = sb (Lib.compact ((bs l).mergeSort fun x y => decide (x ≤ y))) := rfl
theorem mem_sortD {l : List ByteArray} {x : ByteArray} : x ∈ sortD l ↔ x ∈ l := by
  rw [sortD_eq, mem_sb]
  have h := (compact_sorted (fun a b : List UInt8 => a < b) (fun a => List.lt_irrefl a) (fun h k => List.lt_trans h k) _ (sorted_bytes (bs l)) _ (Nat.le_refl _)).1 x.data.toList
  unfold Lib.compact
  rw [h, List.take_length, List.mem_mergeSort, mem_bs]
theorem sortD_sorted (l : List ByteArray) : (sortD l).Pairwise ltS := by
  rw [sortD_eq]
  have h := (compact_sorted (fun a b : List UInt8 => a < b) (fun a => List.lt_irrefl a) (fun h k => List.lt_trans h k) _ (sorted_bytes (bs l)) _ (Nat.le_refl _)).2
  unfold sb
  rw [List.pairwise_map]
  exact h.imp (fun h => by unfold ltS; simpa using h)

/-- two ascending lists of the same strings are one -/
theorem sorted_ext : ∀ {a b : List ByteArray}, a.Pairwise ltS → b.Pairwise ltS → (∀ x, x ∈ a ↔ x ∈ b) → a = b
  | [], [], _, _, _ => rfl
  | [], y :: b, _, _, h => by have := (h y).2 (by simp); simp at this
  | x :: a, [], _, _, h => by have := (h x).1 (by simp); simp at this
  | x :: a, y :: b, ha, hb, h => by
    obtain ⟨ha1, ha2⟩ := List.pairwise_cons.1 ha
    obtain ⟨hb1, hb2⟩ := List.pairwise_cons.1 hb
    have hxy : x = y := by
      rcases List.mem_cons.1 ((h x).1 (by simp)) with e | e
      · exact e
      · rcases List.mem_cons.1 ((h y).2 (by simp)) with e' | e'
        · exact e'.symm
        · exact absurd (ha1 _ e') (ltS_asymm (hb1 _ e))
    subst hxy
    rw [sorted_ext ha2 hb2 (fun z => ?_)]
    have hz := h z
    simp only [List.mem_cons] at hz
    constructor
    · intro hza
      rcases hz.1 (.inr hza) with e | e
      · subst e; exact absurd (ha1 _ hza) (ltS_irrefl _)
      · exact e
    · intro hzb
      rcases hz.2 (.inr hzb) with e | e
      · subst e; exact absurd (hb1 _ hzb) (ltS_irrefl _)
      · exact e

theorem compact_sortL (l : List ByteArray) : sb (Lib.compact (bs (sortL l))) = sortD l := by
  unfold sortL
  rw [bs_sb]
  rfl
theorem mem_sortL {l : List ByteArray} {x : ByteArray} : x ∈ sortL l ↔ x ∈ l := by
  unfold sortL
  rw [mem_sb, List.mem_mergeSort, mem_bs]
theorem bs_nodup {l : List ByteArray} (h : l.Nodup) : (bs l).Nodup := by
  unfold bs
  rw [List.Nodup, List.pairwise_map]
  exact h.imp (fun hne e => hne (by
    rename_i a b
    cases a; cases b
    simp at e
    rw [e]))
/-- a list without repetitions, sorted: strictly ascending -/
theorem sortL_sorted {l : List ByteArray} (h : l.Nodup) : (sortL l).Pairwise ltS := by
  unfold sortL sb
  rw [List.pairwise_map]
  have h1 := sorted_bytes (bs l)
  have h2 : ((bs l).mergeSort fun x y => decide (x ≤ y)).Nodup := (List.mergeSort_perm _ _).nodup_iff.2 (bs_nodup h)
  exact h1.imp₂ (fun a b hab hne => by
    unfold ltS
    rcases hab with e | e
    · exact absurd e hne
    · simpa using e) h2
theorem sortL_eq {l : List ByteArray} (h : l.Nodup) : sortL l = sortD l := sorted_ext (sortL_sorted h) (sortD_sorted l) (fun x => by rw [mem_sortL, mem_sortD])
theorem sortL_length (l : List ByteArray) : (sortL l).length = l.length := by
  unfold sortL
  rw [sb_length, List.length_mergeSort, bs_length]
theorem sortD_length (l : List ByteArray) : (sortD l).length ≤ l.length := by
  unfold sortD
  have h := Lib.compact_length_le ((l.map fun s => s.data.toList).mergeSort fun x y => decide (x ≤ y))
  simp only [List.length_map, List.length_mergeSort] at h ⊢
  exact h
theorem sorted_nodup {l : List ByteArray} (h : l.Pairwise ltS) : l.Nodup := by
  refine List.Pairwise.imp (fun {x y} (k : ltS x y) (e : x = y) => ?_) h
  subst e
  exact ltS_irrefl _ k

/-! what a text needs, which texts need themselves -/
noncomputable def reachB (es : List S40) (a x : ByteArray) : Bool := @decide (Reach es a x) (Classical.propDecidable _)
theorem reachB_iff {es : List S40} {a x : ByteArray} : reachB es a x = true ↔ Reach es a x := by unfold reachB; exact @decide_eq_true_iff _ (Classical.propDecidable _)
noncomputable def needF (es : List S40) (a : ByteArray) : List ByteArray := sortD ((es.map (·.f1)).filter (reachB es a))
theorem reach_in {es : List S40} {a x : ByteArray} (h : Reach es a x) : x ∈ es.map (·.f1) := by
  cases h with
  | one he _ => exact List.mem_map.2 ⟨_, he, rfl⟩
  | more _ he => exact List.mem_map.2 ⟨_, he, rfl⟩
theorem mem_needF {es : List S40} {a x : ByteArray} : x ∈ needF es a ↔ Reach es a x := by
  unfold needF
  rw [mem_sortD, List.mem_filter, reachB_iff]
  exact ⟨fun h => h.2, fun h => ⟨reach_in h, h⟩⟩
theorem needF_sorted (es : List S40) (a : ByteArray) : (needF es a).Pairwise ltS := sortD_sorted _
theorem needF_of {es : List S40} {a : ByteArray} {l : List ByteArray} (hn : l.Nodup) (hm : ∀ x, x ∈ l ↔ Reach es a x) : sortL l = needF es a :=
  sorted_ext (sortL_sorted hn) (needF_sorted es a) (fun x => by rw [mem_sortL, mem_needF, hm])
noncomputable def cycF (zs : List ByteArray) (es : List S40) : List ByteArray := (sortD zs).filter fun n => reachB es n n
def okL (zs : List ByteArray) : Prop := ∀ z ∈ zs, okS z
noncomputable def grd {α : Type} (c : Prop) (x : α) : Option α := @ite _ c (Classical.propDecidable c) (some x) none
theorem grd_some {α : Type} {c : Prop} {x r : α} (h : grd c x = some r) : c ∧ x = r := by
  unfold grd at h
  by_cases hc : c
  · rw [if_pos hc] at h; cases h; exact ⟨hc, rfl⟩
  · rw [if_neg hc] at h; cases h
theorem grd_yes {α : Type} {c : Prop} (hc : c) (x : α) : grd c x = some x := by unfold grd; rw [if_pos hc]
noncomputable def graph_Needs.f (l0 : List S40) (a1 : ByteArray) : Option (List ByteArray) := grd ((l0.length ≤ 1000000 ∧ okE l0) ∧ okS a1) (needF l0 a1)
noncomputable def graph_Cyclic.f (l0 : List ByteArray) (l1 : List S40) : Option (List ByteArray) := grd ((l0.length ≤ 1000000 ∧ okL l0) ∧ l1.length ≤ 1000000 ∧ okE l1) (cycF l0 l1)
end Go.Proofs.Ytkmcepeejleahaa.Q
