/-
  What is reached from a text by one or more edges: the search, as a function; it ends, and tells just that. No condition.
-/
import Derived.Test.YtkmcepeejleahaaH1
import Derived.Maps.StringElems
namespace Go.Proofs.Ytkmcepeejleahaa.Q
open Go.RowKit Go.Proofs.YtkmcepeejleahaaW.PrintWords Go.Proofs.YtkmcepeejleahaaW.PrintLast Go.Proofs.Ytkmcepeejleahaa.M
set_option linter.unusedVariables false

abbrev Seen := ByteArray → Bool
/-- what a map of marks holds -/
def bv (s : Seen) : ByteArray → Option Value := fun x => if s x then some (.bool true) else none
noncomputable def mark (s : Seen) (m : ByteArray) : Seen := fun x => eqS x m || s x
theorem bv_mark (s : Seen) (m : ByteArray) : upd (bv s) m (.bool true) = bv (mark s m) := by
  funext x
  by_cases h : x = m
  · subst h
    rw [upd_same]
    simp [bv, mark, eqS_iff.2 rfl]
  · rw [upd_other _ _ h]
    have : eqS x m = false := by
      cases hc : eqS x m with
      | false => rfl
      | true => exact absurd (eqS_iff.1 hc) h
    simp [bv, mark, this]
noncomputable def scanD (s : Seen × List ByteArray) (m : ByteArray) : Seen × List ByteArray := if s.1 m then s else (mark s.1 m, s.2 ++ [m])
noncomputable def dfs (es : List S40) : Nat → Seen → List ByteArray → Option Seen
  | 0, _, _ => none
  | f + 1, seen, open_ => match open_.getLast? with
    | none => some seen
    | some n => let s := (needsL es n).foldl scanD (seen, open_.dropLast); dfs es f s.1 s.2

/-- by one or more edges -/
inductive Reach (es : List S40) (a : ByteArray) : ByteArray → Prop
  | one {e : S40} : e ∈ es → e.f0 = a → Reach es a e.f1
  | more {e : S40} : Reach es a e.f0 → e ∈ es → Reach es a e.f1
theorem mem_needs {es : List S40} {s m : ByteArray} : m ∈ needsL es s ↔ ∃ e ∈ es, e.f0 = s ∧ e.f1 = m := by
  unfold needsL
  simp only [List.mem_map, List.mem_filter, eqS_iff]
  constructor
  · rintro ⟨e, ⟨h1, h2⟩, h3⟩; exact ⟨e, h1, h2, h3⟩
  · rintro ⟨e, h1, h2, h3⟩; exact ⟨e, ⟨h1, h2⟩, h3⟩

/-- the search half way: what is seen is reached; what is seen and not open has been followed; so has the start, if it is not open -/
structure Half (es : List S40) (a : ByteArray) (seen : Seen) (open_ : List ByteArray) (todo : List ByteArray) : Prop where
  sub : ∀ x, seen x = true → Reach es a x
  opn : ∀ x ∈ open_, x = a ∨ seen x = true
  todoR : ∀ x ∈ todo, Reach es a x
theorem scan_seen (s : Seen × List ByteArray) (m : ByteArray) {x : ByteArray} (h : s.1 x = true) : (scanD s m).1 x = true := by
  unfold scanD
  split
  · exact h
  · simp [mark, h]
theorem scan_self (s : Seen × List ByteArray) (m : ByteArray) : (scanD s m).1 m = true := by
  unfold scanD
  split
  · assumption
  · simp [mark, eqS_iff.2 rfl]
theorem fold_seen : ∀ (l : List ByteArray) (s : Seen × List ByteArray) {x : ByteArray}, s.1 x = true → (l.foldl scanD s).1 x = true
  | [], s, x, h => h
  | m :: l, s, x, h => fold_seen l (scanD s m) (scan_seen s m h)
theorem fold_all : ∀ (l : List ByteArray) (s : Seen × List ByteArray) {x : ByteArray}, x ∈ l → (l.foldl scanD s).1 x = true
  | m :: l, s, x, h => by
    rcases List.mem_cons.1 h with e | e
    · rw [e]; exact fold_seen l _ (scan_self s m)
    · exact fold_all l _ e
/-- the state of the search -/
structure St (es : List S40) (a : ByteArray) (seen : Seen) (open_ : List ByteArray) : Prop where
  sub : ∀ x, seen x = true → Reach es a x
  opn : ∀ x ∈ open_, x = a ∨ Reach es a x
  fol : ∀ x, (x = a ∨ seen x = true) → x ∈ open_ ∨ ∀ m ∈ needsL es x, seen m = true
theorem scan_St {es : List S40} {a : ByteArray} : ∀ (l : List ByteArray) (s : Seen × List ByteArray), (∀ m ∈ l, Reach es a m) → (∀ x, s.1 x = true → Reach es a x) → (∀ x ∈ s.2, x = a ∨ Reach es a x) →
    (∀ x, (l.foldl scanD s).1 x = true → Reach es a x) ∧ (∀ x ∈ (l.foldl scanD s).2, x = a ∨ Reach es a x) ∧ (∀ x, (l.foldl scanD s).1 x = true → s.1 x = true ∨ x ∈ (l.foldl scanD s).2) ∧ (∀ x ∈ s.2, x ∈ (l.foldl scanD s).2)
  | [], s, _, h1, h2 => ⟨h1, h2, fun x h => .inl h, fun x h => h⟩
  | m :: l, s, hl, h1, h2 => by
    have hm := hl m (by simp)
    have g1 : ∀ x, (scanD s m).1 x = true → Reach es a x := by
      intro x hx
      unfold scanD at hx
      split at hx
      · exact h1 x hx
      · simp only [mark, Bool.or_eq_true, eqS_iff] at hx
        rcases hx with e | e
        · rw [e]; exact hm
        · exact h1 x e
    have g2 : ∀ x ∈ (scanD s m).2, x = a ∨ Reach es a x := by
      intro x hx
      unfold scanD at hx
      split at hx
      · exact h2 x hx
      · rcases List.mem_append.1 hx with e | e
        · exact h2 x e
        · simp at e; rw [e]; exact .inr hm
    obtain ⟨i1, i2, i3, i4⟩ := scan_St l (scanD s m) (fun y hy => hl y (by simp [hy])) g1 g2
    have g4 : ∀ x ∈ s.2, x ∈ (scanD s m).2 := by
      intro x hx
      unfold scanD
      split
      · exact hx
      · simp [hx]
    refine ⟨i1, i2, fun x hx => ?_, fun x hx => i4 x (g4 x hx)⟩
    rcases i3 x hx with e | e
    · unfold scanD at e
      split at e
      · exact .inl e
      · rename_i hs
        simp only [mark, Bool.or_eq_true, eqS_iff] at e
        rcases e with e | e
        · refine .inr (i4 x ?_)
          unfold scanD
          rw [if_neg hs]
          simp [e]
        · exact .inl e
    · exact .inr e
theorem St.next {es : List S40} {a n : ByteArray} {seen : Seen} {open_ : List ByteArray} (h : St es a seen open_) (hn : open_.getLast? = some n) :
    St es a ((needsL es n).foldl scanD (seen, open_.dropLast)).1 ((needsL es n).foldl scanD (seen, open_.dropLast)).2 := by
  have hmem : n ∈ open_ := List.mem_of_getLast? hn
  have hr : ∀ m ∈ needsL es n, Reach es a m := by
    intro m hm
    obtain ⟨e, he, h1, h2⟩ := mem_needs.1 hm
    rw [← h2]
    rcases h.opn n hmem with e1 | e1
    · exact .one he (h1.trans e1)
    · exact .more (h1 ▸ e1) he
  obtain ⟨i1, i2, i3, i4⟩ := scan_St (needsL es n) (seen, open_.dropLast) hr h.sub (fun x hx => h.opn x (List.dropLast_subset _ hx))
  refine ⟨i1, i2, fun x hx => ?_⟩
  have old : (x = a ∨ seen x = true) → x ∈ ((needsL es n).foldl scanD (seen, open_.dropLast)).2 ∨ ∀ m ∈ needsL es x, ((needsL es n).foldl scanD (seen, open_.dropLast)).1 m = true := by
    intro hx
    rcases h.fol x hx with e | e
    · obtain ⟨pre, rfl⟩ := List.getLast?_eq_some_iff.1 hn
      rcases List.mem_append.1 e with e | e
      · exact .inl (i4 x (by simpa using e))
      · simp at e
        subst e
        exact .inr (fun m hm => fold_all _ _ hm)
    · exact .inr (fun m hm => fold_seen _ _ (e m hm))
  rcases hx with e | e
  · exact old (.inl e)
  · rcases i3 x e with e | e
    · exact old (.inr e)
    · exact .inl e
theorem St.start (es : List S40) (a : ByteArray) : St es a (fun _ => false) [a] :=
  ⟨fun x h => (by cases h), fun x h => .inl (by simpa using h), fun x h => (by
    rcases h with e | e
    · rw [e]; exact .inl (by simp)
    · cases e)⟩
theorem St.done {es : List S40} {a : ByteArray} {seen : Seen} (h : St es a seen []) (x : ByteArray) : seen x = true ↔ Reach es a x := by
  refine ⟨h.sub x, fun hr => ?_⟩
  induction hr with
  | one he ha =>
    rcases h.fol a (.inl rfl) with e | e
    · cases e
    · exact e _ (mem_needs.2 ⟨_, he, ha, rfl⟩)
  | more _ he ih =>
    rcases h.fol _ (.inr ih) with e | e
    · cases e
    · exact e _ (mem_needs.2 ⟨_, he, rfl, rfl⟩)

/-- how much is left: each pop takes one away, each push two and gives one -/
noncomputable def left (es : List S40) (seen : Seen) (open_ : List ByteArray) : Nat := 2 * (es.countP fun e => !seen e.f1) + open_.length
theorem scan_left {es : List S40} (s : Seen × List ByteArray) {m : ByteArray} (hm : ∃ e ∈ es, e.f1 = m) : left es (scanD s m).1 (scanD s m).2 ≤ left es s.1 s.2 := by
  unfold scanD
  split
  · exact Nat.le_refl _
  · rename_i hs
    unfold left
    have hlt : (es.countP fun e => !(mark s.1 m) e.f1) < es.countP fun e => !s.1 e.f1 := by
      obtain ⟨e, he, rfl⟩ := hm
      have hle : ∀ l : List S40, (l.countP fun x => !(mark s.1 e.f1) x.f1) ≤ l.countP fun x => !s.1 x.f1 := fun l =>
        List.countP_mono_left (fun x _ hx => by simp [mark] at hx ⊢; exact hx.2)
      obtain ⟨l1, l2, rfl⟩ := List.append_of_mem he
      have h1 := hle l1
      have h2 := hle l2
      simp only [List.countP_append, List.countP_cons, Bool.not_eq_true] at *
      have e1 : (!(mark s.1 e.f1) e.f1) = false := by simp [mark, eqS_iff.2 rfl]
      have e2 : (!s.1 e.f1) = true := by simpa using hs
      rw [if_neg (by rw [e1]; simp), if_pos e2]
      omega
    simp only [List.length_append, List.length_singleton]
    omega
theorem fold_left {es : List S40} : ∀ (l : List ByteArray) (s : Seen × List ByteArray), (∀ m ∈ l, ∃ e ∈ es, e.f1 = m) → left es (l.foldl scanD s).1 (l.foldl scanD s).2 ≤ left es s.1 s.2
  | [], s, _ => Nat.le_refl _
  | m :: l, s, h => Nat.le_trans (fold_left l (scanD s m) (fun x hx => h x (by simp [hx]))) (scan_left s (h m (by simp)))
theorem dfs_ok {es : List S40} {a : ByteArray} : ∀ (f : Nat) (seen : Seen) (open_ : List ByteArray), St es a seen open_ → left es seen open_ < f → ∃ r, dfs es f seen open_ = some r ∧ ∀ x, r x = true ↔ Reach es a x
  | 0, seen, open_, _, h => by omega
  | f + 1, seen, open_, hs, h => by
    unfold dfs
    cases hl : open_.getLast? with
    | none =>
      obtain rfl := List.getLast?_eq_none_iff.1 hl
      exact ⟨seen, rfl, hs.done⟩
    | some n =>
      have hne : open_ ≠ [] := by rintro rfl; cases hl
      have hpos := List.length_pos_iff.2 hne
      have h1 := fold_left (es := es) (needsL es n) (seen, open_.dropLast) (fun m hm => by
        obtain ⟨e, he, _, h2⟩ := mem_needs.1 hm
        exact ⟨e, he, h2⟩)
      have h2 : left es seen open_.dropLast + 1 = left es seen open_ := by
        unfold left
        simp only [List.length_dropLast]
        omega
      exact dfs_ok f _ _ (hs.next hl) (by simp only at h1 ⊢; omega)
noncomputable def fuelE (es : List S40) : Nat := 2 * es.length + 2
theorem reach_ok (es : List S40) (a : ByteArray) : ∃ r, dfs es (fuelE es) (fun _ => false) [a] = some r ∧ ∀ x, r x = true ↔ Reach es a x := by
  refine dfs_ok _ _ _ (St.start es a) ?_
  unfold left fuelE
  have h1 := List.countP_le_length (p := fun _ : S40 => !false) (l := es)
  show 2 * (es.countP fun _ => !false) + 1 < 2 * es.length + 2
  omega
end Go.Proofs.Ytkmcepeejleahaa.Q

namespace Go.Proofs.Ytkmcepeejleahaa.Q
open Go.RowKit Go.Proofs.YtkmcepeejleahaaW.PrintWords Go.Proofs.YtkmcepeejleahaaW.PrintLast Go.Proofs.Ytkmcepeejleahaa.M
set_option linter.unusedVariables false

theorem foldl_nextS {β : Type} (g : β → ByteArray → β) (s : β) {l : List ByteArray} {i : Int} (h0 : 0 ≤ i) (h1 : i < l.length) : (l.take (i + 1).toNat).foldl g s = g ((l.take i.toNat).foldl g s) (rdOf ByteArray.empty l i) := by
  have e : (i + 1).toNat = i.toNat + 1 := by omega
  have e2 : l.take (i.toNat + 1) = l.take i.toNat ++ [rdOf ByteArray.empty l i] := by
    rw [List.take_succ_eq_append_getElem (by omega)]
    simp [rdOf, List.getD_eq_getElem?_getD, List.getElem?_eq_getElem (show i.toNat < l.length by omega)]
  rw [e, e2, List.foldl_append]
  rfl
theorem rdS_mem {l : List ByteArray} {i : Int} (h0 : 0 ≤ i) (h1 : i < l.length) : rdOf ByteArray.empty l i ∈ l := by
  simp only [rdOf, List.getD_eq_getElem?_getD, List.getElem?_eq_getElem (show i.toNat < l.length by omega), Option.getD_some]
  exact List.getElem_mem _
theorem nodup_le {α : Type} : ∀ {l S : List α}, l.Nodup → (∀ x ∈ l, x ∈ S) → l.length ≤ S.length
  | [], S, _, _ => Nat.zero_le _
  | a :: l, S, h, hs => by
    obtain ⟨s1, s2, rfl⟩ := List.append_of_mem (hs a (by simp))
    have hn := List.nodup_cons.1 h
    have := nodup_le (l := l) (S := s1 ++ s2) hn.2 (fun x hx => by
      have h1 := hs x (by simp [hx])
      simp only [List.mem_append, List.mem_cons] at h1 ⊢
      rcases h1 with e | e | e
      · exact .inl e
      · exact absurd (e ▸ hx) hn.1
      · exact .inr e)
    simp at this ⊢
    omega

/-- a map holds no more entries than there are keys at which it may hold one -/
theorem MapIs_bound {P : Program} {k : TypeId} {w : World} {b n : Nat} {f : Lit → Option Value} (h : MapIs P k w b n f) (K : Maps.Keyed P k) (S : List Lit) (hS : ∀ kl v, f kl = some v → kl ∈ S) : MapIs P k w b S.length f := by
  classical
  obtain ⟨D, h1, h2⟩ := h
  obtain ⟨es, e1, hp, hk⟩ := h1.entries K
  obtain ⟨es0, clock, hb, F, hs, hD⟩ := h1
  have hlen : es.length = es0.size := by
    rw [e1] at hD
    injection hD with hD
    rw [hD, length_sorted]
    simp
  have hin : ∀ p ∈ es, p.1 ∈ S := by
    intro p hp'
    have h3 := h2 p.1 .nil
    have h4 : ∃ q, es.find? (fun q => q.1.sameKey p.1) = some q := by
      rw [← Option.isSome_iff_exists, List.find?_isSome]
      exact ⟨p, hp', WideAt.sameKey_self (hk p hp')⟩
    obtain ⟨q, hq⟩ := h4
    cases hf : f p.1 with
    | some v => exact hS _ v hf
    | none =>
      have h5 := h2 p.1 (.lit (.bool true))
      rw [hf, e1] at h3 h5
      simp only [DataW.atKey, hq] at h3 h5
      rw [h3] at h5
      cases h5
  have hle : es.length ≤ S.length := by
    have := nodup_le (l := es.map Prod.fst) (S := S) (by rw [List.Nodup, List.pairwise_map]; exact hp) (fun x hx => by
      obtain ⟨p, hp', rfl⟩ := List.mem_map.1 hx
      exact hin p hp')
    simpa using this
  exact ⟨D, ⟨es0, clock, hb, F, by omega, hD⟩, h2⟩
theorem SMap_bound {P : Program} {k : TypeId} {w : World} {b n : Nat} {p : ByteArray → Option Value} (h : SMap P k w b n p) (hk : P.underlying k = some .string) (S : List ByteArray) (hS : ∀ x v, p x = some v → x ∈ S) : SMap P k w b S.length p := by
  have h1 := MapIs_bound h (Maps.string_keyed hk) (S.map sk) (fun kl v e => by
    cases kl with
    | string l => exact List.mem_map.2 ⟨⟨l.toArray⟩, hS _ v e, by simp [sk]⟩
    | _ => cases e)
  have h2 : MapIs P k w b S.length (sf p) := by simpa using h1
  exact h2

/-- a row without its last -/
theorem R_cut {w : World} {base : Nat} {ok : Nat → Prop} {A : Option Addr} {c n : Nat} {xs ys : List ByteArray} (h : Kd.R Kd.string 9 w base ok (.slice A n c) (xs ++ ys)) (hn : 0 < n) : Kd.R Kd.string 9 w base ok (.slice A xs.length c) xs := by
  obtain ⟨g, cap, e, _⟩ := Kd.R_form h (by have := (Kd.R_reads' h).1; omega)
  cases e
  have h1 := Kd.own_of_R h
  have h2 := own_cut (xs := encs Value.string xs) (ys := encs Value.string ys) (by rw [← encs_append]; exact h1)
  refine Kd.R_of_own (by simpa [encs] using h2) h.1
theorem zero4 (w : World) : (zeroValue 4).run Try.prog w = .ok (.bool false) w := by kernel_rfl
theorem bv_get (s : Seen) (x : ByteArray) : (bv s x).getD (.bool false) = .bool (s x) := by
  unfold bv
  cases h : s x <;> simp
theorem bv_dom {es : List S40} {a : ByteArray} {s : Seen} (h : ∀ x, s x = true → Reach es a x) : ∀ x v, bv s x = some v → x ∈ es.map (·.f1) := by
  intro x v hv
  unfold bv at hv
  split at hv
  · rename_i hx
    cases h x hx with
    | one he _ => exact List.mem_map.2 ⟨_, he, rfl⟩
    | more _ he => exact List.mem_map.2 ⟨_, he, rfl⟩
  · cases hv
end Go.Proofs.Ytkmcepeejleahaa.Q
