/-
  What the identity package computes, in plain words: forests of ids and their roots. No condition.
-/
import Derived.Test.YtmhcpaohligjaaaQ0
import Derived.Test.YtmhcpaohligjaaaM
import Derived.Lib.MinMaxS
import Derived.Lib.SlicesCompact
namespace Go.Proofs.Ytmhcpaohligjaaa.Q
open Go.RowKit Go.Proofs.YtmhcpaohligjaaaW.PrintWords Go.Proofs.YtmhcpaohligjaaaW.PrintLast Go.Proofs.Ytmhcpaohligjaaa.M

theorem toList_inj {a b : ByteArray} (h : a.toList = b.toList) : a = b := by
  rw [Lib.toList_data, Lib.toList_data] at h
  cases a; cases b; simp at h; rw [h]

abbrev For := ByteArray → Option ByteArray
def fv (p : For) : ByteArray → Option Value := fun s => (p s).map Value.string
/-- the way from x along p ends behind m steps in r -/
def RootIn (p : For) : Nat → ByteArray → ByteArray → Prop
  | 0, x, r => p x = none ∧ r = x
  | m + 1, x, r => ∃ y, p x = some y ∧ RootIn p m y r
def okS (s : ByteArray) : Prop := s.size ≤ maxLen
def okF (p : For) : Prop := ∀ x y, p x = some y → okS x ∧ okS y

/-- two trees are joined -/
noncomputable def joinP (p : For) (x y : ByteArray) : For := upd p (Lib.maxS x y) (Lib.minS x y)
theorem fv_joinP (p : For) (x y : ByteArray) : upd (fv p) (Lib.maxS x y) (.string (Lib.minS x y)) = fv (joinP p x y) := by
  funext z
  unfold fv joinP
  by_cases h : z = Lib.maxS x y
  · subst h; rw [upd_same, upd_same]; rfl
  · rw [upd_other _ _ h, upd_other _ _ h]

/-- the end of the way from x -/
noncomputable def rootC (p : For) (x : ByteArray) : ByteArray := @dite _ (∃ r m, RootIn p m x r) (Classical.propDecidable _) (fun h => h.choose) (fun _ => x)
theorem RootIn.unique {p : For} : ∀ {m n : Nat} {x r s : ByteArray}, RootIn p m x r → RootIn p n x s → r = s
  | 0, 0, _, _, _, h, k => h.2.trans k.2.symm
  | 0, n + 1, _, _, _, h, k => by obtain ⟨y, hy, _⟩ := k; rw [h.1] at hy; cases hy
  | m + 1, 0, _, _, _, h, k => by obtain ⟨y, hy, _⟩ := h; rw [k.1] at hy; cases hy
  | m + 1, n + 1, _, _, _, h, k => by
    obtain ⟨y, hy, h⟩ := h
    obtain ⟨z, hz, k⟩ := k
    rw [hy] at hz
    cases hz
    exact h.unique k
theorem rootC_eq {p : For} {m : Nat} {x r : ByteArray} (h : RootIn p m x r) : rootC p x = r := by
  have hx : ∃ r m, RootIn p m x r := ⟨r, m, h⟩
  unfold rootC
  rw [dif_pos hx]
  obtain ⟨n, hn⟩ := hx.choose_spec
  exact hn.unique h

def ltS (x y : ByteArray) : Prop := x.data.toList < y.data.toList
theorem ltS_irrefl (x : ByteArray) : ¬ ltS x x := List.lt_irrefl _
theorem ltS_trans {x y z : ByteArray} (h : ltS x y) (k : ltS y z) : ltS x z := List.lt_trans h k
theorem ltS_total (x y : ByteArray) : ltS x y ∨ x = y ∨ ltS y x := by
  rcases Classical.em (ltS x y) with h | h
  · exact .inl h
  rcases Classical.em (ltS y x) with k | k
  · exact .inr (.inr k)
  refine .inr (.inl ?_)
  have e : x.data.toList = y.data.toList := List.le_antisymm (List.not_lt.1 k) (List.not_lt.1 h)
  cases x; cases y; simp at e; rw [e]
theorem maxS_eq {x y : ByteArray} (h : ltS x y) : Lib.maxS x y = y ∧ Lib.minS x y = x := by
  have h' : x.data.toList < y.data.toList := h
  unfold Lib.maxS Lib.minS
  rw [if_pos h', if_pos (.inl h')]
  exact ⟨rfl, rfl⟩
theorem maxS_eq' {x y : ByteArray} (h : ltS y x) : Lib.maxS x y = x ∧ Lib.minS x y = y := by
  have h1 : ¬ x.data.toList < y.data.toList := fun k => ltS_irrefl _ (ltS_trans h k)
  have h2 : x.data.toList ≠ y.data.toList := fun e => by unfold ltS at h; rw [e] at h; exact List.lt_irrefl _ h
  unfold Lib.maxS Lib.minS
  rw [if_neg h1, if_neg (by intro hk; cases hk with | inl k => exact h1 k | inr k => exact h2 k)]
  exact ⟨rfl, rfl⟩

/-- every step leads to a lesser id, among those of S -/
def Tree (p : For) (S : List ByteArray) : Prop := ∀ x y, p x = some y → ltS y x ∧ x ∈ S ∧ y ∈ S

theorem Tree.empty (S : List ByteArray) : Tree (fun _ => none) S := fun x y h => by cases h
theorem Tree.mono {p : For} {S T : List ByteArray} (h : Tree p S) (hs : ∀ x ∈ S, x ∈ T) : Tree p T := fun x y e => ⟨(h x y e).1, hs _ (h x y e).2.1, hs _ (h x y e).2.2⟩

open Classical in
theorem Tree.root {p : For} {S : List ByteArray} (h : Tree p S) : ∀ x, ∃ r m, RootIn p m x r := by
  have key : ∀ n x, (S.countP fun z => decide (ltS z x)) ≤ n → ∃ r m, RootIn p m x r := by
    intro n
    induction n with
    | zero =>
      intro x hx
      refine ⟨x, 0, ?_, rfl⟩
      cases e : p x with
      | none => rfl
      | some y =>
        obtain ⟨h1, _, h3⟩ := h x y e
        have := List.countP_pos_iff (p := fun z => decide (ltS z x)).2 ⟨y, h3, decide_eq_true h1⟩
        omega
    | succ n ih =>
      intro x hx
      cases e : p x with
      | none => exact ⟨x, 0, e, rfl⟩
      | some y =>
        obtain ⟨h1, _, h3⟩ := h x y e
        have hlt : (S.countP fun z => decide (ltS z y)) < (S.countP fun z => decide (ltS z x)) := by
          have hle : ∀ l : List ByteArray, (l.countP fun z => decide (ltS z y)) ≤ (l.countP fun z => decide (ltS z x)) := fun l =>
            List.countP_mono_left (fun z _ hz => by simp at hz ⊢; exact ltS_trans hz h1)
          obtain ⟨a, b, rfl⟩ := List.append_of_mem h3
          rw [List.countP_append, List.countP_append, List.countP_cons, List.countP_cons]
          have i1 := hle a
          have i2 := hle b
          have e1 : decide (ltS y y) = false := decide_eq_false (ltS_irrefl y)
          have e2 : decide (ltS y x) = true := decide_eq_true h1
          rw [e1, e2]
          simp
          omega
        obtain ⟨r, m, hr⟩ := ih y (by omega)
        exact ⟨r, m + 1, y, e, hr⟩
  exact fun x => key _ x (Nat.le_refl _)

theorem Tree.rootIn {p : For} {S : List ByteArray} (h : Tree p S) (x : ByteArray) : ∃ m, RootIn p m x (rootC p x) := by
  obtain ⟨r, m, hr⟩ := h.root x
  exact ⟨m, by rw [rootC_eq hr]; exact hr⟩
theorem RootIn.end_ {p : For} : ∀ {m : Nat} {x r : ByteArray}, RootIn p m x r → p r = none
  | 0, _, _, h => by rw [h.2]; exact h.1
  | m + 1, _, _, h => by obtain ⟨y, _, h⟩ := h; exact h.end_
theorem RootIn.mem {p : For} {S : List ByteArray} (h : Tree p S) : ∀ {m : Nat} {x r : ByteArray}, RootIn p m x r → x ∈ S → r ∈ S
  | 0, _, _, k, hx => by rw [k.2]; exact hx
  | m + 1, _, _, k, _ => by obtain ⟨y, hy, k⟩ := k; exact RootIn.mem h k (h _ _ hy).2.2
theorem Tree.root_mem {p : For} {S : List ByteArray} (h : Tree p S) {x : ByteArray} (hx : x ∈ S) : rootC p x ∈ S := by
  obtain ⟨m, hr⟩ := h.rootIn x
  exact hr.mem h hx
theorem Tree.root_none {p : For} {S : List ByteArray} (h : Tree p S) (x : ByteArray) : p (rootC p x) = none := by
  obtain ⟨m, hr⟩ := h.rootIn x
  exact hr.end_

theorem Tree.join {p : For} {S : List ByteArray} (h : Tree p S) {r s : ByteArray} (hr : r ∈ S) (hs : s ∈ S) (hne : r ≠ s) : Tree (joinP p r s) S := by
  intro x y e
  unfold joinP at e
  by_cases hx : x = Lib.maxS r s
  · subst hx
    rw [upd_same] at e
    cases e
    rcases ltS_total r s with k | k | k
    · rw [(maxS_eq k).1, (maxS_eq k).2]; exact ⟨k, hs, hr⟩
    · exact absurd k hne
    · rw [(maxS_eq' k).1, (maxS_eq' k).2]; exact ⟨k, hr, hs⟩
  · rw [upd_other _ _ hx] at e
    exact h x y e

/-- one more link -/
noncomputable def joinK (p : For) (k : S28) : For := if rootC p k.f0 = rootC p k.f1 then p else joinP p (rootC p k.f0) (rootC p k.f1)
noncomputable def ofL (l : List S28) : For := l.foldl joinK (fun _ => none)
def idsL (l : List S28) : List ByteArray := l.flatMap fun k => [k.f0, k.f1]
theorem Tree.joinK {p : For} {S : List ByteArray} (h : Tree p S) {k : S28} (h0 : k.f0 ∈ S) (h1 : k.f1 ∈ S) : Tree (joinK p k) S := by
  unfold Q.joinK
  by_cases e : rootC p k.f0 = rootC p k.f1
  · rw [if_pos e]; exact h
  · rw [if_neg e]; exact h.join (h.root_mem h0) (h.root_mem h1) e
theorem tree_fold (S : List ByteArray) : ∀ (l : List S28) (p : For), Tree p S → (∀ k ∈ l, k.f0 ∈ S ∧ k.f1 ∈ S) → Tree (l.foldl joinK p) S
  | [], _, h, _ => h
  | k :: l, _, h, hl => tree_fold S l _ (h.joinK (hl k (by simp)).1 (hl k (by simp)).2) (fun j hj => hl j (by simp [hj]))
theorem mem_idsL {l : List S28} {k : S28} (h : k ∈ l) : k.f0 ∈ idsL l ∧ k.f1 ∈ idsL l := by
  unfold idsL
  exact ⟨List.mem_flatMap.2 ⟨k, h, by simp⟩, List.mem_flatMap.2 ⟨k, h, by simp⟩⟩
theorem tree_ofL (l : List S28) : Tree (ofL l) (idsL l) := tree_fold _ l _ (Tree.empty _) (fun _ h => mem_idsL h)
/-- strings short enough for this machine's -/
def okL (l : List S28) : Prop := ∀ k ∈ l, okS k.f0 ∧ okS k.f1
theorem okL_ids {l : List S28} (h : okL l) : ∀ x ∈ idsL l, okS x := by
  intro x hx
  obtain ⟨k, hk, hx⟩ := List.mem_flatMap.1 hx
  simp at hx
  rcases hx with rfl | rfl
  · exact (h k hk).1
  · exact (h k hk).2
theorem Tree.okF {p : For} {S : List ByteArray} (h : Tree p S) (hs : ∀ x ∈ S, okS x) : okF p := fun x y e => ⟨hs _ (h x y e).2.1, hs _ (h x y e).2.2⟩
theorem ofL_snoc (l : List S28) (k : S28) : ofL (l ++ [k]) = joinK (ofL l) k := by simp [ofL, List.foldl_append]
theorem okL_take {l : List S28} (h : okL l) (n : Nat) : okL (l.take n) := fun k hk => h k (List.mem_of_mem_take hk)
theorem take_snoc28 {l : List S28} {n : Nat} (h : n < l.length) : l.take (n + 1) = l.take n ++ [rd_T28 l n] := by
  rw [List.take_succ_eq_append_getElem h]
  simp [rd_T28, List.getD_eq_getElem?_getD, List.getElem?_eq_getElem h]
theorem rd_mem28 {l : List S28} {n : Nat} (h : n < l.length) : rd_T28 l n ∈ l := by
  simp only [rd_T28, List.getD_eq_getElem?_getD, Int.toNat_natCast, List.getElem?_eq_getElem h, Option.getD_some]
  exact List.getElem_mem h
theorem tree_take (l : List S28) (n : Nat) : Tree (ofL (l.take n)) (idsL l) := (tree_ofL _).mono (fun x hx => by
  obtain ⟨k, hk, hx⟩ := List.mem_flatMap.1 hx
  exact List.mem_flatMap.2 ⟨k, List.mem_of_mem_take hk, hx⟩)
theorem rd_nat {l : List S28} {i : Int} (h0 : 0 ≤ i) : rd_T28 l i = rd_T28 l (i.toNat : Int) := by rw [Int.toNat_of_nonneg h0]
theorem rd_memI {l : List S28} {i : Int} (h0 : 0 ≤ i) (h1 : i < l.length) : rd_T28 l i ∈ l := by
  rw [rd_nat h0]
  exact rd_mem28 (by omega)
theorem ofL_next {l : List S28} {i : Int} (h0 : 0 ≤ i) (h1 : i < l.length) : ofL (l.take (i + 1).toNat) = joinK (ofL (l.take i.toNat)) (rd_T28 l i) := by
  have e : (i + 1).toNat = i.toNat + 1 := by omega
  rw [e, take_snoc28 (by omega), ofL_snoc, ← rd_nat h0]
theorem Tree.max_mem {p : For} {S : List ByteArray} (h : Tree p S) {x y : ByteArray} (hx : x ∈ S) (hy : y ∈ S) : Lib.maxS (rootC p x) (rootC p y) ∈ S := by
  unfold Lib.maxS
  split
  · exact h.root_mem hy
  · exact h.root_mem hx
/-- x, where c holds -/
noncomputable def grd {α : Type} (c : Prop) (x : α) : Option α := @ite _ c (Classical.propDecidable c) (some x) none
theorem grd_some {α : Type} {c : Prop} {x r : α} (h : grd c x = some r) : c ∧ x = r := by
  unfold grd at h
  by_cases hc : c
  · rw [if_pos hc] at h; cases h; exact ⟨hc, rfl⟩
  · rw [if_neg hc] at h; cases h
theorem grd_pos {α : Type} {c : Prop} (h : c) (x : α) : grd c x = some x := by
  unfold grd
  rw [if_pos h]
def okA (l : List S28) : Prop := l.length ≤ 1000000 ∧ okL l
/-- the root of an id by links -/
noncomputable def rootL (l : List S28) (x : ByteArray) : ByteArray := rootC (ofL l) x
def sameB (x y : ByteArray) : Bool := decide (x = y)
theorem toList_beq (x y : ByteArray) : (x.toList == y.toList) = sameB x y := by
  rw [Bool.eq_iff_iff, beq_iff_eq]
  unfold sameB
  rw [decide_eq_true_iff]
  exact ⟨toList_inj, fun h => by rw [h]⟩
theorem sameB_true {x y : ByteArray} (h : x = y) : sameB x y = true := by unfold sameB; exact decide_eq_true h
theorem sameB_false {x y : ByteArray} (h : x ≠ y) : sameB x y = false := by unfold sameB; exact decide_eq_false h
theorem sameB_iff {x y : ByteArray} : sameB x y = true ↔ x = y := by unfold sameB; exact decide_eq_true_iff
noncomputable def identity_Root.f (l0 : List S28) (a1 : ByteArray) : Option ByteArray := grd (okA l0 ∧ okS a1) (rootL l0 a1)
noncomputable def identity_Same.f (l0 : List S28) (a1 a2 : ByteArray) : Option Bool := grd (okA l0 ∧ okS a1 ∧ okS a2) (sameB (rootL l0 a1) (rootL l0 a2))
/-- the links that join two trees -/
noncomputable def forestL : List S28 → For → List S28
  | [], _ => []
  | k :: l, p => if rootC p k.f0 = rootC p k.f1 then forestL l p else k :: forestL l (joinK p k)
noncomputable def identity_Forest.f (l0 : List S28) : Option (List S28) := grd (okA l0) (forestL l0 (fun _ => none))
theorem forestL_snoc (k : S28) : ∀ (l : List S28) (p : For), forestL (l ++ [k]) p = forestL l p ++ if rootC (l.foldl joinK p) k.f0 = rootC (l.foldl joinK p) k.f1 then [] else [k]
  | [], p => by
    by_cases h : rootC p k.f0 = rootC p k.f1
    · simp [forestL, h]
    · simp [forestL, h]
  | j :: l, p => by
    by_cases h : rootC p j.f0 = rootC p j.f1
    · have e : joinK p j = p := by unfold joinK; rw [if_pos h]
      simp only [List.cons_append, forestL, if_pos h, List.foldl_cons, e]
      exact forestL_snoc k l p
    · simp only [List.cons_append, forestL, if_neg h, List.foldl_cons]
      rw [forestL_snoc k l]
      rfl
theorem forest_next {l : List S28} {i : Int} (h0 : 0 ≤ i) (h1 : i < l.length) : forestL (l.take (i + 1).toNat) (fun _ => none) =
    forestL (l.take i.toNat) (fun _ => none) ++ if rootC (ofL (l.take i.toNat)) (rd_T28 l i).f0 = rootC (ofL (l.take i.toNat)) (rd_T28 l i).f1 then [] else [rd_T28 l i] := by
  have e : (i + 1).toNat = i.toNat + 1 := by omega
  rw [e, take_snoc28 (by omega), forestL_snoc, ← rd_nat h0]
  rfl
theorem forestL_length : ∀ (l : List S28) (p : For), (forestL l p).length ≤ l.length
  | [], p => Nat.le_refl _
  | j :: l, p => by
    unfold forestL
    split
    · have := forestL_length l p; simp; omega
    · have := forestL_length l (joinK p j); simp; omega
/-- the ids that belong together with a, and a itself: in any order, some more than once -/
noncomputable def rawL (l : List S28) (a : ByteArray) : List ByteArray := a :: (idsL l).filter fun x => sameB (rootL l x) (rootL l a)
/-- in ascending order, each once -/
def sortD (l : List ByteArray) : List ByteArray := (Lib.compact ((l.map fun s => s.data.toList).mergeSort fun x y => decide (x ≤ y))).map fun x => ⟨x.toArray⟩
noncomputable def identity_Members.f (l0 : List S28) (a1 : ByteArray) : Option (List ByteArray) := grd (okA l0 ∧ okS a1) (sortD (rawL l0 a1))
end Go.Proofs.Ytmhcpaohligjaaa.Q
