/-
  Shortest lists of links: what identity.Path comes to. No condition.
-/
import Derived.Test.YtmhcpaohligjaaaT4
namespace Go.Proofs.Ytmhcpaohligjaaa.Q
open Go.RowKit Go.Proofs.YtmhcpaohligjaaaW.PrintWords Go.Proofs.YtmhcpaohligjaaaW.PrintLast Go.Proofs.Ytmhcpaohligjaaa.M
set_option linter.unusedVariables false

/-- p leads in n steps from a to b, each one link nearer, by the first link that does so -/
def PathOK (l : List S28) (far : Far) (b : ByteArray) : Nat → ByteArray → List S28 → Prop
  | 0, a, p => a = b ∧ p = []
  | n + 1, a, p => ∃ k x q, p = k :: q ∧ k ∈ l ∧ otherO k a = some x ∧ far x = some (n : Int) ∧ firstK far a l = some (k, x) ∧ PathOK l far b n x q
theorem firstK_some {far : Far} {a : ByteArray} {n : Nat} (hn : n ≤ 1000000000) (ha : far a = some ((n + 1 : Nat) : Int)) : ∀ {q : List S28}, (∃ k ∈ q, ∃ x, otherO k a = some x ∧ far x = some (n : Int)) →
    ∃ k x, firstK far a q = some (k, x) ∧ k ∈ q ∧ otherO k a = some x ∧ far x = some (n : Int)
  | [], h => by obtain ⟨k, hk, _⟩ := h; cases hk
  | j :: q, h => by
    have e1 : wrap64 ((far a).getD 0 - 1) = (n : Int) := by
      rw [ha]
      unfold wrap64
      simp
      omega
    unfold firstK
    cases ho : otherO j a with
    | none =>
      simp only
      have h2 : ∃ k ∈ q, ∃ x, otherO k a = some x ∧ far x = some (n : Int) := by
        obtain ⟨k, hk, x, hx, hf⟩ := h
        rcases List.mem_cons.1 hk with e | e
        · subst e; rw [ho] at hx; cases hx
        · exact ⟨k, e, x, hx, hf⟩
      obtain ⟨k, x, h3, h4, h5⟩ := firstK_some hn ha h2
      exact ⟨k, x, h3, by simp [h4], h5⟩
    | some y =>
      simp only
      rw [e1]
      by_cases hy : far y = some (n : Int)
      · rw [if_pos hy]
        exact ⟨j, y, rfl, by simp, ho, hy⟩
      · rw [if_neg hy]
        have h2 : ∃ k ∈ q, ∃ x, otherO k a = some x ∧ far x = some (n : Int) := by
          obtain ⟨k, hk, x, hx, hf⟩ := h
          rcases List.mem_cons.1 hk with e | e
          · subst e; rw [ho] at hx; cases hx; exact absurd hf hy
          · exact ⟨k, e, x, hx, hf⟩
        obtain ⟨k, x, h3, h4, h5⟩ := firstK_some hn ha h2
        exact ⟨k, x, h3, by simp [h4], h5⟩
theorem told_zero {l : List S28} {b : ByteArray} {far : Far} (h : Told l b far) {a : ByteArray} : far a = some ((0 : Nat) : Int) ↔ a = b := by
  rw [h]
  constructor
  · rintro ⟨m, hm, hd⟩
    have : m = 0 := by omega
    subst this
    exact hd.1
  · rintro rfl
    exact ⟨0, rfl, rfl, fun m hm => by omega⟩
theorem told_step {l : List S28} {b : ByteArray} {far : Far} (h : Told l b far) {a : ByteArray} {n : Nat} (ha : far a = some ((n + 1 : Nat) : Int)) : ∃ k ∈ l, ∃ x, otherO k a = some x ∧ far x = some (n : Int) := by
  obtain ⟨m, hm, hd⟩ := (h a _).1 ha
  have : m = n + 1 := by omega
  subst this
  obtain ⟨y, hy, hadj⟩ := hd.pred
  obtain ⟨k, hk, ho | ho⟩ := adj_other hadj.symm
  · exact ⟨k, hk, y, ho, (h y _).2 ⟨n, rfl, hy⟩⟩
  · subst ho
    have := hy.unique hd
    omega
theorem pathN_ok {l : List S28} {b : ByteArray} {far : Far} (h : Told l b far) : ∀ (n : Nat) (a : ByteArray) (out : List S28) (f : Nat), n ≤ 1000000000 → far a = some (n : Int) → n < f →
    ∃ p, pathN far l b f a out = some (out ++ p) ∧ PathOK l far b n a p
  | 0, a, out, f, _, ha, hf => by
    obtain ⟨g, rfl⟩ : ∃ g, f = g + 1 := ⟨f - 1, by omega⟩
    have e := (told_zero h).1 ha
    exact ⟨[], by simp [pathN, e], e, rfl⟩
  | n + 1, a, out, f, hn, ha, hf => by
    obtain ⟨g, rfl⟩ : ∃ g, f = g + 1 := ⟨f - 1, by omega⟩
    have hne : a ≠ b := by
      intro e
      have := (told_zero h).2 e
      rw [ha] at this
      injection this with this
      omega
    obtain ⟨k, x, h1, h2, h3, h4⟩ := firstK_some (by omega) ha (told_step h ha)
    obtain ⟨q, h5, h6⟩ := pathN_ok h n x (out ++ [k]) g (by omega) h4 (by omega)
    refine ⟨k :: q, ?_, k, x, q, rfl, h2, h3, h4, h1, h6⟩
    simp only [pathN]
    rw [if_neg hne, h1]
    simp only [nextP]
    rw [h5]
    simp
theorem PathOK.length {l : List S28} {far : Far} {b : ByteArray} : ∀ {n : Nat} {a : ByteArray} {p : List S28}, PathOK l far b n a p → p.length = n
  | 0, _, _, h => by rw [h.2]; rfl
  | n + 1, _, _, h => by
    obtain ⟨k, x, q, rfl, _, _, _, _, h⟩ := h
    simp [h.length]

theorem idsL_two (l : List S28) : (idsL l).length = 2 * l.length := by
  induction l with
  | nil => rfl
  | cons k l ih => simp [idsL] at ih ⊢; omega
/-- ids at many distances are many -/
theorem told_bound {l : List S28} {b : ByteArray} {n : Nat} {a : ByteArray} (h : Dist l b n a) : n ≤ 2 * l.length := by
  classical
  have hex : ∀ m, m ≤ n → ∃ x, Dist l b m x := by
    intro m hm
    induction n generalizing a with
    | zero => exact ⟨a, by have : m = 0 := by omega
                           subst this; exact h⟩
    | succ n ih =>
      by_cases e : m = n + 1
      · subst e; exact ⟨a, h⟩
      · obtain ⟨y, hy, _⟩ := h.pred
        exact ih hy (by omega)
  let g : Nat → ByteArray := fun m => if hm : m ≤ n then (hex m hm).choose else b
  have hg : ∀ m, m ≤ n → Dist l b m (g m) := fun m hm => by
    show Dist l b m (if hm : m ≤ n then (hex m hm).choose else b)
    rw [dif_pos hm]
    exact (hex m hm).choose_spec
  have hnd : ((List.range (n + 1)).map g).Nodup := by
    rw [List.Nodup, List.pairwise_map]
    refine List.Pairwise.imp_of_mem (fun {x y} hx hy hxy => ?_) (List.pairwise_lt_range (n := n + 1))
    intro e
    have h1 := hg x (by simp at hx; omega)
    have h2 := hg y (by simp at hy; omega)
    rw [e] at h1
    have := h1.unique h2
    omega
  have hsub : ∀ x ∈ (List.range (n + 1)).map g, x ∈ b :: idsL l := by
    intro x hx
    obtain ⟨m, hm, rfl⟩ := List.mem_map.1 hx
    have h1 := hg m (by simp at hm; omega)
    rcases conn_ids ((conn_dist).2 ⟨m, h1⟩) with e | e
    · rw [← e]; simp
    · exact List.mem_cons_of_mem _ e.2
  have := nodup_le hnd hsub
  have h2 := idsL_two l
  simp at this
  omega

theorem path_ok {l : List S28} (hl : l.length ≤ 1000000) (a b : ByteArray) : ∃ far, Told l b far ∧
    ((far a = none ∧ ¬ Conn l a b ∧ pathF l a b = some ([], false)) ∨ ∃ (n : Nat) (p : List S28), far a = some (n : Int) ∧ Dist l b n a ∧ Conn l a b ∧ pathF l a b = some (p, true) ∧ PathOK l far b n a p) := by
  obtain ⟨far, hb, ht⟩ := bfs_ok hl b
  refine ⟨far, ht, ?_⟩
  unfold pathF
  rw [hb]
  simp only
  cases hf : far a with
  | none =>
    refine .inl ⟨rfl, fun hc => ?_, rfl⟩
    obtain ⟨n, hn⟩ := conn_dist.1 hc.symm
    have := (ht a n).2 ⟨n, rfl, hn⟩
    rw [hf] at this
    cases this
  | some d =>
    obtain ⟨n, rfl, hd⟩ := (ht a d).1 hf
    have hb2 := told_bound hd
    obtain ⟨p, h1, h2⟩ := pathN_ok ht n a [] (fuelL l) (by omega) hf (by unfold fuelL; omega)
    refine .inr ⟨n, p, rfl, hd, (conn_dist.2 ⟨n, hd⟩).symm, ?_, h2⟩
    rw [h1]
    rfl
end Go.Proofs.Ytmhcpaohligjaaa.Q
