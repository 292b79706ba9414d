/-
  Plain: the order as a run that takes the least ready node each time; what it tells of cycles; on what it depends. No condition.
-/
import Derived.Test.YtkmcepeejleahaaO2
namespace Go.Proofs.Ytkmcepeejleahaa.Q
open Go.RowKit Go.Proofs.YtkmcepeejleahaaW.PrintWords Go.Proofs.YtkmcepeejleahaaW.PrintLast Go.Proofs.Ytkmcepeejleahaa.M
set_option linter.unusedVariables false

/-- all that x needs is in out -/
def Rdy (es : List S40) (out : List ByteArray) (x : ByteArray) : Prop := ∀ e ∈ es, e.f0 = x → e.f1 ∈ out
theorem readyB_iff {es : List S40} {out : List ByteArray} {x : ByteArray} : readyB es (doneS out) x = true ↔ Rdy es out x := by
  unfold readyB Rdy
  rw [Bool.not_eq_true', List.any_eq_false]
  constructor
  · intro h e he hx
    have := h e.f1 (mem_needs.2 ⟨e, he, hx, rfl⟩)
    simpa [doneS_iff] using this
  · intro h m hm
    obtain ⟨e, he, hx, rfl⟩ := mem_needs.1 hm
    simpa [doneS_iff] using h e he hx
/-- a node that may come next -/
def Cand (es : List S40) (out : List ByteArray) (x : ByteArray) : Prop := x ∉ out ∧ Rdy es out x
inductive Run (zs : List ByteArray) (es : List S40) : List ByteArray → List ByteArray × Int → Prop
  | done {out : List ByteArray} : out.length = zs.length → Run zs es out (out, 0)
  | stuck {out : List ByteArray} : out.length < zs.length → (∀ y ∈ zs, ¬ Cand es out y) → Run zs es out ([], 12)
  | step {out : List ByteArray} {x : ByteArray} {r : List ByteArray × Int} : out.length < zs.length → x ∈ zs → Cand es out x → (∀ y ∈ zs, Cand es out y → y = x ∨ ltS x y) → Run zs es (out ++ [x]) r → Run zs es out r

/-- each one comes after all that it needs -/
def Ord (es : List S40) (out : List ByteArray) : Prop := ∀ i (h : i < out.length), ∀ e ∈ es, e.f0 = out[i] → e.f1 ∈ out.take i
theorem Ord.nil (es : List S40) : Ord es [] := fun i h => absurd h (by simp)
theorem Ord.snoc {es : List S40} {out : List ByteArray} {x : ByteArray} (h : Ord es out) (hx : Rdy es out x) : Ord es (out ++ [x]) := by
  intro i hi e he hf
  by_cases hlt : i < out.length
  · rw [List.getElem_append_left hlt] at hf
    have := h i hlt e he hf
    rw [List.take_append_of_le_length (by omega)]
    exact this
  · have hi2 : i = out.length := by simp at hi; omega
    subst hi2
    have e1 : (out ++ [x])[out.length] = x := by simp
    rw [e1] at hf
    have := hx e he hf
    simpa using this
theorem Ord.reach {es : List S40} {out : List ByteArray} (h : Ord es out) {i : Nat} (hi : i < out.length) {m : ByteArray} (hr : Reach es out[i] m) : m ∈ out.take i := by
  induction hr with
  | one he ha => exact h i hi _ he ha
  | @more e _ he ih =>
    obtain ⟨j, hj, hje⟩ := List.mem_iff_getElem.1 ih
    have hjl : j < out.length ∧ j < i := by simp at hj; omega
    have e1 : out[j] = e.f0 := by rw [← hje]; simp
    have := h j hjl.1 e he e1.symm
    exact (List.take_subset_take_left out (by omega)) this
theorem Ord.acyclic {es : List S40} {out : List ByteArray} (h : Ord es out) (hn : out.Nodup) {x : ByteArray} (hx : x ∈ out) : ¬ Reach es x x := by
  intro hr
  obtain ⟨i, hi, rfl⟩ := List.mem_iff_getElem.1 hx
  have h1 := h.reach hi hr
  obtain ⟨j, hj, he⟩ := List.mem_iff_getElem.1 h1
  have hjl : j < out.length ∧ j < i := by simp at hj; omega
  have e1 : out[j] = out[i] := by rw [← he]; simp
  have := (List.nodup_iff_pairwise_ne.1 hn)
  rw [List.pairwise_iff_getElem] at this
  exact this j i hjl.1 hi hjl.2 e1

/-- the state half way -/
structure Mid (zs lf out : List ByteArray) : Prop where
  asc : lf.Pairwise ltS
  mem : ∀ x, x ∈ lf ↔ (x ∈ zs ∧ x ∉ out)
  sub : ∀ x ∈ out, x ∈ zs
  nodup : out.Nodup
  len : out.length + lf.length = zs.length
theorem Mid.next {zs lf out : List ByteArray} (h : Mid zs lf out) {j : Nat} (hj : j < lf.length) : Mid zs (lf.eraseIdx j) (out ++ [lf.getD j ByteArray.empty]) := by
  have hg : lf.getD j ByteArray.empty = lf[j] := by rw [List.getD_eq_getElem?_getD, List.getElem?_eq_getElem hj]; rfl
  rw [hg]
  have hm := (h.mem lf[j]).1 (List.getElem_mem hj)
  have hnd : lf.Nodup := sorted_nodup h.asc
  refine ⟨h.asc.sublist (List.eraseIdx_sublist _ _), fun x => ?_, fun x hx => ?_, ?_, ?_⟩
  · have hme : x ∈ lf.eraseIdx j ↔ x ∈ lf ∧ x ≠ lf[j] := by
      constructor
      · intro hx
        refine ⟨List.mem_of_mem_eraseIdx hx, fun e => ?_⟩
        obtain ⟨i, hil, hne, he⟩ := List.mem_eraseIdx_iff_getElem.1 hx
        exact hne ((List.getElem_inj (h₀ := hil) (h₁ := hj) hnd).1 (he.trans e))
      · rintro ⟨hx, hne⟩
        obtain ⟨i, hi, rfl⟩ := List.mem_iff_getElem.1 hx
        exact List.mem_eraseIdx_iff_getElem.2 ⟨i, hi, fun e => hne (by subst e; rfl), rfl⟩
    rw [hme, h.mem x, List.mem_append, List.mem_singleton]
    constructor
    · rintro ⟨⟨h1, h2⟩, h3⟩
      exact ⟨h1, by rintro (h4 | h4); exact h2 h4; exact h3 h4⟩
    · rintro ⟨h1, h2⟩
      exact ⟨⟨h1, fun h3 => h2 (.inl h3)⟩, fun h3 => h2 (.inr h3)⟩
  · rcases List.mem_append.1 hx with e | e
    · exact h.sub x e
    · rw [List.mem_singleton] at e
      rw [e]
      exact hm.1
  · rw [List.nodup_append]
    refine ⟨h.nodup, by simp, fun a ha b hb => ?_⟩
    rw [List.mem_singleton] at hb
    rintro rfl
    exact hm.2 (hb ▸ ha)
  · have := h.len
    rw [List.length_eraseIdx_of_lt hj]
    simp
    omega
theorem run_loop {zs : List ByteArray} {es : List S40} : ∀ (n : Nat) {lf out : List ByteArray}, Mid zs lf out → n = lf.length → Run zs es out (loopO es n lf out)
  | 0, lf, out, h, hn => by
    have := h.len
    exact .done (by omega)
  | n + 1, lf, out, h, hn => by
    have hl := h.len
    unfold loopO
    cases hf : lf.findIdx? (readyB es (doneS out)) with
    | none =>
      rw [List.findIdx?_eq_none_iff] at hf
      refine .stuck (by omega) (fun y hy hc => ?_)
      have := hf y ((h.mem y).2 ⟨hy, hc.1⟩)
      rw [readyB_iff.2 hc.2] at this
      cases this
    | some j =>
      rw [List.findIdx?_eq_some_iff_getElem] at hf
      obtain ⟨hj, hr, hb⟩ := hf
      have hg : lf.getD j ByteArray.empty = lf[j] := by rw [List.getD_eq_getElem?_getD, List.getElem?_eq_getElem hj]; rfl
      have hm := (h.mem lf[j]).1 (List.getElem_mem hj)
      have hnx := h.next hj
      have ih := run_loop (zs := zs) (es := es) n hnx (by rw [List.length_eraseIdx_of_lt hj]; omega)
      refine .step (x := lf[j]) (by omega) hm.1 ⟨hm.2, readyB_iff.1 hr⟩ (fun y hy hc => ?_) (by rw [hg] at ih; show Run zs es (out ++ [lf[j]]) (loopO es n (lf.eraseIdx j) (out ++ [lf.getD j ByteArray.empty])); rw [hg]; exact ih)
      obtain ⟨i, hi, rfl⟩ := List.mem_iff_getElem.1 ((h.mem y).2 ⟨hy, hc.1⟩)
      have hij : ¬ i < j := fun hlt => by
        have := hb i hlt
        rw [readyB_iff.2 hc.2] at this
        simp at this
      rcases Nat.lt_or_eq_of_le (Nat.le_of_not_lt hij) with e | e
      · exact .inr ((List.pairwise_iff_getElem.1 h.asc) j i hj hi e)
      · subst e; exact .inl rfl

/-- a cycle among nodes none of which is ready -/
theorem has_min {R : ByteArray → ByteArray → Prop} (tr : ∀ {a b c}, R a b → R b c → R a c) : ∀ (l : List ByteArray), l ≠ [] → (∀ x ∈ l, ¬ R x x) → ∃ x ∈ l, ∀ y ∈ l, ¬ R x y
  | [], h, _ => absurd rfl h
  | a :: l, _, hi => by
    by_cases hl : l = []
    · subst hl
      exact ⟨a, by simp, fun y hy => by simp at hy; rw [hy]; exact hi a (by simp)⟩
    · obtain ⟨x, hx, hm⟩ := has_min (R := R) tr l hl (fun x hx => hi x (by simp [hx]))
      by_cases hxa : R x a
      · refine ⟨a, by simp, fun y hy => ?_⟩
        rcases List.mem_cons.1 hy with e | e
        · rw [e]; exact hi a (by simp)
        · exact fun h => hm y e (tr hxa h)
      · refine ⟨x, by simp [hx], fun y hy => ?_⟩
        rcases List.mem_cons.1 hy with e | e
        · rw [e]; exact hxa
        · exact hm y e
theorem Reach.trans {es : List S40} {a b c : ByteArray} (h : Reach es a b) (k : Reach es b c) : Reach es a c := by
  induction k with
  | one he hb => exact .more (hb ▸ h) he
  | more _ he ih => exact .more ih he
theorem stuck_cycle {zs out : List ByteArray} {es : List S40} (hn : zs.Nodup) (hin : ∀ e ∈ es, e.f0 ∈ zs ∧ e.f1 ∈ zs) (hl : out.length < zs.length) (hs : ∀ y ∈ zs, ¬ Cand es out y) : ∃ x ∈ zs, Reach es x x := by
  refine Classical.byContradiction fun hno => ?_
  have hno2 : ∀ x ∈ zs, ¬ Reach es x x := fun x hx hr => hno ⟨x, hx, hr⟩
  have hne : zs.filter (fun x => !(doneS out x)) ≠ [] := by
    intro h
    have := nodup_le (S := out) hn (fun x hx => by
      refine Classical.byContradiction fun hxo => ?_
      have : x ∈ zs.filter (fun x => !(doneS out x)) := by
        rw [List.mem_filter]
        refine ⟨hx, ?_⟩
        cases hd : doneS out x with
        | false => rfl
        | true => exact absurd (doneS_iff.1 hd) hxo
      rw [h] at this
      simp at this)
    omega
  obtain ⟨x, hx, hm⟩ := has_min (R := Reach es) (fun h k => h.trans k) _ hne (fun x hx => hno2 x (List.mem_filter.1 hx).1)
  obtain ⟨hxz, hxo⟩ := List.mem_filter.1 hx
  have hxo2 : x ∉ out := fun h => by rw [doneS_iff.2 h] at hxo; simp at hxo
  refine hs x hxz ⟨hxo2, fun e he hf => ?_⟩
  refine Classical.byContradiction fun hmo => ?_
  refine hm e.f1 (List.mem_filter.2 ⟨(hin e he).2, ?_⟩) (.one he hf)
  cases hd : doneS out e.f1 with
  | false => rfl
  | true => exact absurd (doneS_iff.1 hd) hmo

/-- how a run ends -/
theorem Run.ends {zs : List ByteArray} {es : List S40} (hn : zs.Nodup) (hin : ∀ e ∈ es, e.f0 ∈ zs ∧ e.f1 ∈ zs) {out : List ByteArray} {r : List ByteArray × Int} (h : Run zs es out r) :
    (∀ x ∈ out, x ∈ zs) → out.Nodup → Ord es out → (r.2 = 0 ∧ r.1.length = zs.length ∧ r.1.Nodup ∧ (∀ x ∈ r.1, x ∈ zs) ∧ Ord es r.1) ∨ (r = ([], 12) ∧ ∃ x ∈ zs, Reach es x x) := by
  induction h with
  | done hl => exact fun h1 h2 h3 => .inl ⟨rfl, hl, h2, h1, h3⟩
  | stuck hl hs => exact fun _ _ _ => .inr ⟨rfl, stuck_cycle hn hin hl hs⟩
  | step hl hx hc _ _ ih =>
    intro h1 h2 h3
    refine ih (fun y hy => ?_) ?_ (h3.snoc hc.2)
    · rcases List.mem_append.1 hy with e | e
      · exact h1 y e
      · rw [List.mem_singleton] at e; rw [e]; exact hx
    · rw [List.nodup_append]
      refine ⟨h2, by simp, fun a ha b hb => ?_⟩
      rw [List.mem_singleton] at hb
      rintro rfl
      exact hc.1 (hb ▸ ha)

theorem sortD_len {zs : List ByteArray} (h : zs.Nodup) : (sortD zs).length = zs.length := by rw [← sortL_eq h, sortL_length]
theorem nodup_of_len {zs : List ByteArray} (h : (sortD zs).length = zs.length) : zs.Nodup := by
  induction zs with
  | nil => simp
  | cons a l ih =>
    have hnd : (sortD (a :: l)).Nodup := sorted_nodup (sortD_sorted _)
    have h2 := sortD_length l
    simp only [List.length_cons] at h
    rcases Classical.em (a ∈ l) with ha | ha
    · have h1 := nodup_le (S := sortD l) hnd (fun x hx => by
        rw [mem_sortD] at hx ⊢
        rcases List.mem_cons.1 hx with e | e
        · rw [e]; exact ha
        · exact e)
      omega
    · have h1 := nodup_le (S := a :: sortD l) hnd (fun x hx => by
        rw [mem_sortD] at hx
        rcases List.mem_cons.1 hx with e | e
        · simp [e]
        · simp [mem_sortD, e])
      simp only [List.length_cons] at h1
      exact List.nodup_cons.2 ⟨ha, ih (by omega)⟩
theorem allIn_iff {zs : List ByteArray} {es : List S40} : allIn (sortL zs) es = true ↔ ∀ e ∈ es, e.f0 ∈ zs ∧ e.f1 ∈ zs := by
  unfold allIn
  rw [List.all_eq_true]
  simp only [Bool.and_eq_true, Lib.containsS_iff, mem_sortL]
theorem Mid.start {zs : List ByteArray} (h : zs.Nodup) : Mid zs (sortL zs) [] :=
  ⟨sortL_sorted h, fun x => by rw [mem_sortL]; simp, fun x hx => by simp at hx, by simp, by rw [sortL_length]; simp⟩

/-- the order, told by its three ways -/
theorem orderF_dup {zs : List ByteArray} (es : List S40) (h : ¬ zs.Nodup) : orderF zs es = ([], 10) := by
  unfold orderF
  rw [if_pos]
  intro e
  rw [sortL_length] at e
  exact h (nodup_of_len (by omega))
theorem orderF_out {zs : List ByteArray} {es : List S40} (h : zs.Nodup) (hn : ¬ ∀ e ∈ es, e.f0 ∈ zs ∧ e.f1 ∈ zs) : orderF zs es = ([], 11) := by
  unfold orderF
  rw [if_neg (by rw [sortD_len h, sortL_length]; simp), if_neg (fun ha => hn (allIn_iff.1 ha))]
theorem orderF_run {zs : List ByteArray} {es : List S40} (h : zs.Nodup) (hn : ∀ e ∈ es, e.f0 ∈ zs ∧ e.f1 ∈ zs) : Run zs es [] (orderF zs es) := by
  unfold orderF
  rw [if_neg (by rw [sortD_len h, sortL_length]; simp), if_pos (allIn_iff.2 hn)]
  exact run_loop _ (Mid.start h) (sortL_length zs).symm
theorem orderF_ends {zs : List ByteArray} {es : List S40} (h : zs.Nodup) (hn : ∀ e ∈ es, e.f0 ∈ zs ∧ e.f1 ∈ zs) :
    ((orderF zs es).2 = 0 ∧ (orderF zs es).1.length = zs.length ∧ (orderF zs es).1.Nodup ∧ (∀ x ∈ (orderF zs es).1, x ∈ zs) ∧ Ord es (orderF zs es).1) ∨ (orderF zs es = ([], 12) ∧ ∃ x ∈ zs, Reach es x x) :=
  (orderF_run h hn).ends h hn (fun x hx => by simp at hx) (by simp) (Ord.nil es)

/-- on what it depends -/
theorem needs_any_congr {es es' : List S40} (h : ∀ e, e ∈ es ↔ e ∈ es') (out : List ByteArray) : readyB es (doneS out) = readyB es' (doneS out) := by
  funext x
  have : Rdy es out x ↔ Rdy es' out x := ⟨fun k e he => k e ((h e).2 he), fun k e he => k e ((h e).1 he)⟩
  rw [Bool.eq_iff_iff, readyB_iff, readyB_iff, this]
theorem loopO_congr {es es' : List S40} (h : ∀ e, e ∈ es ↔ e ∈ es') : ∀ (n : Nat) (lf out : List ByteArray), loopO es n lf out = loopO es' n lf out
  | 0, _, _ => rfl
  | n + 1, lf, out => by
    unfold loopO
    rw [needs_any_congr h out]
    cases lf.findIdx? (readyB es' (doneS out)) with
    | none => rfl
    | some j => exact loopO_congr h n _ _
theorem orderF_congr {zs zs' : List ByteArray} {es es' : List S40} (hz : zs.Nodup) (hz' : zs'.Nodup) (hm : ∀ x, x ∈ zs ↔ x ∈ zs') (he : ∀ e, e ∈ es ↔ e ∈ es') : orderF zs es = orderF zs' es' := by
  have e1 : sortL zs = sortL zs' := sorted_ext (sortL_sorted hz) (sortL_sorted hz') (fun x => by rw [mem_sortL, mem_sortL, hm])
  have e2 : sortD zs = sortD zs' := sorted_ext (sortD_sorted _) (sortD_sorted _) (fun x => by rw [mem_sortD, mem_sortD, hm])
  have e3 : zs.length = zs'.length := by rw [← sortL_length zs, e1, sortL_length]
  have e4 : allIn (sortL zs') es = allIn (sortL zs') es' := by
    rw [Bool.eq_iff_iff, allIn_iff, allIn_iff]
    exact ⟨fun k e h => k e ((he e).2 h), fun k e h => k e ((he e).1 h)⟩
  unfold orderF
  rw [e1, e2, e3, e4, loopO_congr he]
end Go.Proofs.Ytkmcepeejleahaa.Q
