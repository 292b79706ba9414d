/-
  Belonging together by links: plain laws of identity's forests. No condition.
-/
import Derived.Test.YtmhcpaohligjaaaD
namespace Go.Proofs.Ytmhcpaohligjaaa.Q
open Go.RowKit Go.Proofs.YtmhcpaohligjaaaW.PrintWords Go.Proofs.YtmhcpaohligjaaaW.PrintLast Go.Proofs.Ytmhcpaohligjaaa.M
set_option linter.unusedVariables false

theorem ltS_asymm {x y : ByteArray} (h : ltS x y) : ¬ ltS y x := fun k => ltS_irrefl _ (ltS_trans h k)
/-- x is y or less -/
def leS (x y : ByteArray) : Prop := x = y ∨ ltS x y
theorem leS_refl (x : ByteArray) : leS x x := .inl rfl
theorem leS_trans {x y z : ByteArray} (h : leS x y) (k : leS y z) : leS x z := by
  rcases h with rfl | h
  · exact k
  · rcases k with rfl | k
    · exact .inr h
    · exact .inr (ltS_trans h k)
theorem leS_antisymm {x y : ByteArray} (h : leS x y) (k : leS y x) : x = y := by
  rcases h with h | h
  · exact h
  · rcases k with k | k
    · exact k.symm
    · exact absurd k (ltS_asymm h)
theorem leS_total (x y : ByteArray) : leS x y ∨ leS y x := by
  rcases ltS_total x y with h | h | h
  · exact .inl (.inr h)
  · exact .inl (.inl h)
  · exact .inr (.inr h)

theorem RootIn.le {p : For} {S : List ByteArray} (h : Tree p S) : ∀ {m : Nat} {x r : ByteArray}, RootIn p m x r → leS r x
  | 0, _, _, k => .inl k.2
  | m + 1, _, _, k => by
    obtain ⟨y, hy, k⟩ := k
    exact leS_trans (RootIn.le h k) (.inr (h _ _ hy).1)
theorem Tree.root_le {p : For} {S : List ByteArray} (h : Tree p S) (x : ByteArray) : leS (rootC p x) x := by
  obtain ⟨m, hm⟩ := h.rootIn x
  exact hm.le h
theorem rootC_self {p : For} {x : ByteArray} (h : p x = none) : rootC p x = x := rootC_eq (m := 0) ⟨h, rfl⟩
theorem Tree.root_root {p : For} {S : List ByteArray} (h : Tree p S) (x : ByteArray) : rootC p (rootC p x) = rootC p x := rootC_self (h.root_none x)

/-- the roots behind two trees' joining -/
theorem RootIn.join {p : For} {r s : ByteArray} (hr : p r = none) (hs : p s = none) (hne : r ≠ s) (lo hi : ByteArray) (hlo : Lib.minS r s = lo) (hhi : Lib.maxS r s = hi) (hloN : p lo = none) (hd : lo ≠ hi) :
    ∀ {m : Nat} {x t : ByteArray}, RootIn p m x t → ∃ m', RootIn (joinP p r s) m' x (if t = hi then lo else t)
  | 0, x, t, h => by
    obtain ⟨h0, rfl⟩ := h
    have hlo2 : joinP p r s lo = none := by
      unfold joinP
      rw [hhi, upd_other _ _ hd]
      exact hloN
    by_cases e : t = hi
    · refine ⟨1, lo, ?_, ?_⟩
      · unfold joinP
        rw [hhi, e, upd_same, hlo]
      · rw [if_pos e]
        exact ⟨hlo2, rfl⟩
    · refine ⟨0, ?_, ?_⟩
      · unfold joinP
        rw [hhi, upd_other _ _ e]
        exact h0
      · rw [if_neg e]
  | m + 1, x, t, h => by
    obtain ⟨y, hy, h⟩ := h
    obtain ⟨m', h'⟩ := RootIn.join hr hs hne lo hi hlo hhi hloN hd h
    refine ⟨m' + 1, y, ?_, h'⟩
    have hx : x ≠ hi := by
      rintro rfl
      have : p x = none := by
        rw [← hhi]
        unfold Lib.maxS
        split
        · exact hs
        · exact hr
      rw [this] at hy
      cases hy
    unfold joinP
    rw [hhi, upd_other _ _ hx]
    exact hy
theorem minmax {r s : ByteArray} (hne : r ≠ s) : (Lib.minS r s = r ∧ Lib.maxS r s = s) ∨ (Lib.minS r s = s ∧ Lib.maxS r s = r) := by
  rcases ltS_total r s with h | h | h
  · exact .inl ⟨(maxS_eq h).2, (maxS_eq h).1⟩
  · exact absurd h hne
  · exact .inr ⟨(maxS_eq' h).2, (maxS_eq' h).1⟩
theorem Tree.rootC_join {p : For} {S : List ByteArray} (h : Tree p S) {r s : ByteArray} (hr : p r = none) (hs : p s = none) (hne : r ≠ s) (x : ByteArray) :
    rootC (joinP p r s) x = if rootC p x = Lib.maxS r s then Lib.minS r s else rootC p x := by
  obtain ⟨m, hm⟩ := h.rootIn x
  rcases minmax hne with ⟨h1, h2⟩ | ⟨h1, h2⟩
  · obtain ⟨m', h'⟩ := RootIn.join hr hs hne r s h1 h2 hr hne hm
    rw [h1, h2]
    exact rootC_eq h'
  · obtain ⟨m', h'⟩ := RootIn.join hr hs hne s r h1 h2 hs (fun e => hne e.symm) hm
    rw [h1, h2]
    exact rootC_eq h'

/-- two ids belong together by links -/
def Conn (l : List S28) (x y : ByteArray) : Prop := rootL l x = rootL l y
theorem Conn.refl (l : List S28) (x : ByteArray) : Conn l x x := rfl
theorem Conn.symm {l : List S28} {x y : ByteArray} (h : Conn l x y) : Conn l y x := Eq.symm h
theorem Conn.trans {l : List S28} {x y z : ByteArray} (h : Conn l x y) (k : Conn l y z) : Conn l x z := Eq.trans h k

theorem conn_snoc (l : List S28) (k : S28) (x y : ByteArray) :
    Conn (l ++ [k]) x y ↔ Conn l x y ∨ (Conn l x k.f0 ∧ Conn l k.f1 y) ∨ (Conn l x k.f1 ∧ Conn l k.f0 y) := by
  unfold Conn rootL
  rw [ofL_snoc]
  have T := tree_ofL l
  generalize ofL l = p at *
  unfold joinK
  by_cases e : rootC p k.f0 = rootC p k.f1
  · rw [if_pos e]
    constructor
    · exact .inl
    · rintro (h | ⟨h, g⟩ | ⟨h, g⟩)
      · exact h
      · rw [h, e, g]
      · rw [h, ← e, g]
  · rw [if_neg e, T.rootC_join (T.root_none _) (T.root_none _) e, T.rootC_join (T.root_none _) (T.root_none _) e]
    generalize rootC p k.f0 = r at *
    generalize rootC p k.f1 = s at *
    generalize rootC p x = a
    generalize rootC p y = b
    rcases minmax e with ⟨h1, h2⟩ | ⟨h1, h2⟩
    · rw [h1, h2]
      grind
    · rw [h1, h2]
      grind
theorem conn_nil (x y : ByteArray) : Conn [] x y ↔ x = y := by
  unfold Conn rootL ofL
  simp only [List.foldl_nil]
  rw [rootC_self rfl, rootC_self rfl]

/-- a link joins x and y -/
def Adj (l : List S28) (x y : ByteArray) : Prop := ∃ k ∈ l, (k.f0 = x ∧ k.f1 = y) ∨ (k.f0 = y ∧ k.f1 = x)
/-- links lead from x to y -/
inductive Way (l : List S28) (x : ByteArray) : ByteArray → Prop
  | start : Way l x x
  | step {y z : ByteArray} : Way l x y → Adj l y z → Way l x z
theorem Adj.symm {l : List S28} {x y : ByteArray} (h : Adj l x y) : Adj l y x := by
  obtain ⟨k, hk, h⟩ := h
  exact ⟨k, hk, h.symm⟩
theorem Way.trans {l : List S28} {x y z : ByteArray} (h : Way l x y) (k : Way l y z) : Way l x z := by
  induction k with
  | start => exact h
  | step _ a ih => exact ih.step a
theorem Way.symm {l : List S28} {x y : ByteArray} (h : Way l x y) : Way l y x := by
  induction h with
  | start => exact .start
  | step _ a ih => exact (Way.start.step a.symm).trans ih
theorem Adj.mono {l l' : List S28} {x y : ByteArray} (h : Adj l x y) (hl : ∀ k ∈ l, k ∈ l') : Adj l' x y := by
  obtain ⟨k, hk, h⟩ := h
  exact ⟨k, hl k hk, h⟩
theorem Way.mono {l l' : List S28} {x y : ByteArray} (h : Way l x y) (hl : ∀ k ∈ l, k ∈ l') : Way l' x y := by
  induction h with
  | start => exact .start
  | step _ a ih => exact ih.step (a.mono hl)
theorem Adj.of_mem {l : List S28} {k : S28} (h : k ∈ l) : Adj l k.f0 k.f1 := ⟨k, h, .inl ⟨rfl, rfl⟩⟩

theorem snoc_ind {P : List S28 → Prop} (h0 : P []) (h1 : ∀ l k, P l → P (l ++ [k])) (l : List S28) : P l := by
  have : ∀ n, ∀ l : List S28, l.length = n → P l := by
    intro n
    induction n with
    | zero => intro l h; rw [List.eq_nil_of_length_eq_zero h]; exact h0
    | succ n ih =>
      intro l h
      have hne : l ≠ [] := by rintro rfl; simp at h
      rw [← List.dropLast_concat_getLast hne]
      exact h1 _ _ (ih _ (by simp; omega))
  exact this _ l rfl

/-- belonging together is what links lead to -/
theorem conn_way (l : List S28) : ∀ x y, Conn l x y ↔ Way l x y := by
  induction l using snoc_ind with
  | h0 =>
    intro x y
    rw [conn_nil]
    constructor
    · rintro rfl; exact .start
    · intro h
      induction h with
      | start => rfl
      | step _ a _ => obtain ⟨k, hk, _⟩ := a; cases hk
  | h1 l k ih =>
    intro x y
    rw [conn_snoc]
    have hm : ∀ j ∈ l, j ∈ l ++ [k] := fun j hj => by simp [hj]
    have hk : Adj (l ++ [k]) k.f0 k.f1 := Adj.of_mem (by simp)
    constructor
    · rintro (h | ⟨h, g⟩ | ⟨h, g⟩)
      · exact ((ih _ _).1 h).mono hm
      · exact ((((ih _ _).1 h).mono hm).step hk).trans (((ih _ _).1 g).mono hm)
      · exact ((((ih _ _).1 h).mono hm).step hk.symm).trans (((ih _ _).1 g).mono hm)
    · intro h
      induction h with
      | start => exact .inl (Conn.refl _ _)
      | @step y z _ a i2 =>
        obtain ⟨j, hj, e⟩ := a
        have key : ∀ y z, (Conn l x y ∨ Conn l x k.f0 ∧ Conn l k.f1 y ∨ Conn l x k.f1 ∧ Conn l k.f0 y) → Conn l y z → (Conn l x z ∨ Conn l x k.f0 ∧ Conn l k.f1 z ∨ Conn l x k.f1 ∧ Conn l k.f0 z) := by
          rintro y z (h | ⟨h, g⟩ | ⟨h, g⟩) c
          · exact .inl (h.trans c)
          · exact .inr (.inl ⟨h, g.trans c⟩)
          · exact .inr (.inr ⟨h, g.trans c⟩)
        rcases List.mem_append.1 hj with hj | hj
        · exact key y z i2 ((ih _ _).2 (Way.start.step ⟨j, hj, e⟩))
        · simp at hj
          subst hj
          rcases e with ⟨rfl, rfl⟩ | ⟨rfl, rfl⟩
          · rcases i2 with h | ⟨h, g⟩ | ⟨h, g⟩
            · exact .inr (.inl ⟨h, Conn.refl _ _⟩)
            · exact .inr (.inl ⟨h, Conn.refl _ _⟩)
            · exact .inl h
          · rcases i2 with h | ⟨h, g⟩ | ⟨h, g⟩
            · exact .inr (.inr ⟨h, Conn.refl _ _⟩)
            · exact .inl h
            · exact .inr (.inr ⟨h, Conn.refl _ _⟩)
theorem conn_mono {l l' : List S28} (hl : ∀ k ∈ l, k ∈ l') {x y : ByteArray} (h : Conn l x y) : Conn l' x y := (conn_way _ _ _).2 (((conn_way _ _ _).1 h).mono hl)
theorem conn_link {l : List S28} {k : S28} (h : k ∈ l) : Conn l k.f0 k.f1 := (conn_way _ _ _).2 (Way.start.step (Adj.of_mem h))
/-- the same links, in whatever order and direction, as often as it may be -/
theorem conn_adj {l l' : List S28} (h : ∀ x y, Adj l x y → Adj l' x y) {x y : ByteArray} (c : Conn l x y) : Conn l' x y := by
  rw [conn_way] at c ⊢
  induction c with
  | start => exact .start
  | step _ a ih => exact ih.step (h _ _ a)

/-! ### roots -/
theorem root_conn (l : List S28) (x : ByteArray) : Conn l (rootL l x) x := (tree_ofL l).root_root x
theorem root_least {l : List S28} {x y : ByteArray} (h : Conn l x y) : leS (rootL l x) y := by
  have : rootL l x = rootL l y := h
  rw [this]
  exact (tree_ofL l).root_le y
/-- the root is the least id that belongs together with x -/
theorem root_unique {l : List S28} {x r : ByteArray} (h : Conn l x r) (hr : ∀ y, Conn l x y → leS r y) : rootL l x = r :=
  leS_antisymm (root_least h) (hr _ (root_conn l x).symm)
theorem root_congr {l l' : List S28} (h : ∀ x y, Conn l x y ↔ Conn l' x y) (x : ByteArray) : rootL l x = rootL l' x :=
  root_unique ((h _ _).2 (root_conn l' x).symm) (fun y hy => root_least ((h _ _).1 hy))
theorem conn_ids {l : List S28} {x y : ByteArray} (h : Conn l x y) : x = y ∨ (x ∈ idsL l ∧ y ∈ idsL l) := by
  rw [conn_way] at h
  induction h with
  | start => exact .inl rfl
  | @step y z _ a ih =>
    obtain ⟨k, hk, e⟩ := a
    have hm := mem_idsL hk
    have hy : y ∈ idsL l ∧ z ∈ idsL l := by
      rcases e with ⟨rfl, rfl⟩ | ⟨rfl, rfl⟩
      · exact hm
      · exact hm.symm
    rcases ih with rfl | ih
    · exact .inr hy
    · exact .inr ⟨ih.1, hy.2⟩
end Go.Proofs.Ytmhcpaohligjaaa.Q
