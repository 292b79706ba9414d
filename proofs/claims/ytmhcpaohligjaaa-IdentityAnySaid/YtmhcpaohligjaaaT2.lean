/-
  Sorted lists of strings, each once; the members of an id. No condition.
-/
import Derived.Test.YtmhcpaohligjaaaT1
import Derived.Test.YtmhcpaohligjaaaS
namespace Go.Proofs.Ytmhcpaohligjaaa.Q
open Go.RowKit Go.Proofs.YtmhcpaohligjaaaW.PrintWords Go.Proofs.YtmhcpaohligjaaaW.PrintLast Go.Proofs.Ytmhcpaohligjaaa.M
set_option linter.unusedVariables false

theorem compact_sorted {α : Type} [Inhabited α] [DecidableEq α] (lt : α → α → Prop) (irr : ∀ a, ¬ lt a a) (tr : ∀ {a b c}, lt a b → lt b c → lt a c) (xs : List α)
    (hs : xs.Pairwise fun a b => a = b ∨ lt a b) : ∀ m, m ≤ xs.length → (∀ x, x ∈ Lib.compactUpTo xs.toArray m ↔ x ∈ xs.take m) ∧ (Lib.compactUpTo xs.toArray m).Pairwise lt
  | 0, _ => by simp [Lib.compactUpTo]
  | m + 1, h => by
    obtain ⟨i1, i2⟩ := compact_sorted lt irr tr xs hs m (by omega)
    have hg : ∀ i (hi : i < xs.length), xs.toArray[i]! = xs[i] := fun i hi => by
      rw [getElem!_pos _ i (by simpa using hi)]; simp
    have hp := List.pairwise_iff_getElem.1 hs
    rw [Lib.compactUpTo_succ, List.take_succ_eq_append_getElem (by omega), hg m (by omega)]
    cases hk : Lib.keeps xs.toArray m with
    | true =>
      simp only [if_true]
      refine ⟨fun x => by rw [List.mem_append, List.mem_append, i1], ?_⟩
      rw [List.pairwise_append]
      refine ⟨i2, by simp, fun y hy z hz => ?_⟩
      simp at hz
      subst hz
      rw [i1] at hy
      obtain ⟨i, hi, rfl⟩ := List.getElem_of_mem hy
      simp at hi
      rw [List.getElem_take]
      have hm0 : m ≠ 0 := by omega
      have hne : xs[m] ≠ xs[m - 1] := by
        unfold Lib.keeps at hk
        simp only [decide_eq_true_eq] at hk
        rcases hk with hk | hk
        · exact absurd hk hm0
        · rwa [hg m (by omega), hg (m - 1) (by omega)] at hk
      have h1 : xs[m - 1] = xs[m] ∨ lt xs[m - 1] xs[m] := hp (m - 1) m (by omega) (by omega) (by omega)
      have h2 : lt xs[m - 1] xs[m] := by
        rcases h1 with h1 | h1
        · exact absurd h1.symm hne
        · exact h1
      by_cases e : i = m - 1
      · subst e; exact h2
      · have h3 : xs[i] = xs[m - 1] ∨ lt xs[i] xs[m - 1] := hp i (m - 1) (by omega) (by omega) (by omega)
        rcases h3 with h3 | h3
        · rw [h3]; exact h2
        · exact tr h3 h2
    | false =>
      simp only [Bool.false_eq_true, if_false, List.append_nil]
      refine ⟨fun x => ?_, i2⟩
      rw [i1, List.mem_append]
      constructor
      · exact .inl
      · rintro (h1 | h1)
        · exact h1
        · simp at h1
          subst h1
          have hm0 : m ≠ 0 := by
            rintro rfl
            simp [Lib.keeps] at hk
          have he : xs[m] = xs[m - 1] := by
            unfold Lib.keeps at hk
            simp only [decide_eq_false_iff_not, not_or] at hk
            have := Decidable.of_not_not hk.2
            rwa [hg m (by omega), hg (m - 1) (by omega)] at this
          rw [he]
          exact List.mem_iff_getElem.2 ⟨m - 1, by simp; omega, by simp⟩

theorem le_bytes {a b : List UInt8} (h : a ≤ b) : a = b ∨ a < b := by
  rcases List.le_iff_lt_or_eq.1 h with h | h
  · exact .inr h
  · exact .inl h
theorem sorted_bytes (l : List (List UInt8)) : (l.mergeSort fun x y => decide (x ≤ y)).Pairwise fun a b => a = b ∨ a < b := by
  have h := List.pairwise_mergeSort (le := fun x y : List UInt8 => decide (x ≤ y)) (fun a b c h1 h2 => by simp at h1 h2 ⊢; exact List.le_trans h1 h2) (fun a b => by simp; exact List.le_total a b) l
  exact h.imp (fun h => le_bytes (by simpa using h))
theorem mem_bs {s : ByteArray} {l : List ByteArray} : s.data.toList ∈ bs l ↔ s ∈ l := by
  unfold bs
  constructor
  · intro h
    obtain ⟨t, ht, e⟩ := List.mem_map.1 h
    have : t = s := by cases t; cases s; simp at e; rw [e]
    exact this ▸ ht
  · intro h; exact List.mem_map.2 ⟨s, h, rfl⟩
theorem mem_sb {s : ByteArray} {l : List (List UInt8)} : s ∈ sb l ↔ s.data.toList ∈ l := by
  unfold sb
  constructor
  · intro h
    obtain ⟨t, ht, rfl⟩ := List.mem_map.1 h
    simpa using ht
  · intro h; exact List.mem_map.2 ⟨_, h, by simp⟩
theorem sortD_eq (l : List ByteArray) : sortD l = sb (Lib.compact ((bs l).mergeSort fun x y => decide (x ≤ y))) := rfl
theorem mem_sortD {l : List ByteArray} {x : ByteArray} : x ∈ sortD l ↔ x ∈ l := by
  rw [sortD_eq, mem_sb]
  have h := (compact_sorted (fun a b : List UInt8 => a < b) (fun a => List.lt_irrefl a) (fun h k => List.lt_trans h k) _ (sorted_bytes (bs l)) _ (Nat.le_refl _)).1 x.data.toList
  unfold Lib.compact
  rw [h, List.take_length, List.mem_mergeSort, mem_bs]
theorem sortD_sorted (l : List ByteArray) : (sortD l).Pairwise ltS := by
  rw [sortD_eq]
  have h := (compact_sorted (fun a b : List UInt8 => a < b) (fun a => List.lt_irrefl a) (fun h k => List.lt_trans h k) _ (sorted_bytes (bs l)) _ (Nat.le_refl _)).2
  unfold sb
  rw [List.pairwise_map]
  exact h.imp (fun h => by unfold ltS; simpa using h)

/-- two ascending lists of the same strings are one -/
theorem sorted_ext : ∀ {a b : List ByteArray}, a.Pairwise ltS → b.Pairwise ltS → (∀ x, x ∈ a ↔ x ∈ b) → a = b
  | [], [], _, _, _ => rfl
  | [], y :: b, _, _, h => by have := (h y).2 (by simp); simp at this
  | x :: a, [], _, _, h => by have := (h x).1 (by simp); simp at this
  | x :: a, y :: b, ha, hb, h => by
    obtain ⟨ha1, ha2⟩ := List.pairwise_cons.1 ha
    obtain ⟨hb1, hb2⟩ := List.pairwise_cons.1 hb
    have hxy : x = y := by
      rcases List.mem_cons.1 ((h x).1 (by simp)) with e | e
      · exact e
      · rcases List.mem_cons.1 ((h y).2 (by simp)) with e' | e'
        · exact e'.symm
        · exact absurd (ha1 _ e') (ltS_asymm (hb1 _ e))
    subst hxy
    rw [sorted_ext ha2 hb2 (fun z => ?_)]
    have hz := h z
    simp only [List.mem_cons] at hz
    constructor
    · intro hza
      rcases hz.1 (.inr hza) with e | e
      · subst e; exact absurd (ha1 _ hza) (ltS_irrefl _)
      · exact e
    · intro hzb
      rcases hz.2 (.inr hzb) with e | e
      · subst e; exact absurd (hb1 _ hzb) (ltS_irrefl _)
      · exact e

/-! ### members -/
noncomputable def members (l : List S28) (a : ByteArray) : List ByteArray := sortD (rawL l a)
theorem mem_members {l : List S28} {a x : ByteArray} : x ∈ members l a ↔ Conn l x a := by
  unfold members
  rw [mem_sortD]
  unfold rawL
  rw [List.mem_cons, List.mem_filter, sameB_iff]
  constructor
  · rintro (rfl | ⟨_, h⟩)
    · exact Conn.refl _ _
    · exact h
  · intro h
    rcases conn_ids h with e | e
    · exact .inl e
    · exact .inr ⟨e.1, h⟩
theorem members_sorted (l : List S28) (a : ByteArray) : (members l a).Pairwise ltS := sortD_sorted _
theorem members_congr {l l' : List S28} {a b : ByteArray} (h : ∀ x, Conn l x a ↔ Conn l' x b) : members l a = members l' b :=
  sorted_ext (members_sorted _ _) (members_sorted _ _) (fun x => by rw [mem_members, mem_members, h])
theorem members_head {l : List S28} {a : ByteArray} : (members l a).head? = some (rootL l a) := by
  have hr : rootL l a ∈ members l a := mem_members.2 (root_conn l a)
  have hp := members_sorted l a
  have hm : ∀ x ∈ members l a, Conn l x a := fun x hx => mem_members.1 hx
  cases hc : members l a with
  | nil => rw [hc] at hr; cases hr
  | cons x t =>
    rw [hc] at hr hp hm
    obtain ⟨h1, _⟩ := List.pairwise_cons.1 hp
    rcases List.mem_cons.1 hr with e | e
    · rw [e]; rfl
    · have h2 := root_least (hm x (by simp)).symm
      exact absurd (leS_antisymm h2 (.inr (h1 _ e))) (fun e2 => ltS_irrefl x (by have := h1 _ e; rw [e2] at this; exact this))
end Go.Proofs.Ytmhcpaohligjaaa.Q
