/-
  The chapter's example; what nodes and edges make. No condition beyond those that stand in each.
-/
import Derived.Test.YtkmcepeejleahaaP3
import Derived.Test.YtkmcepeejleahaaHO
import Derived.Test.YtkmcepeejleahaaHD
import Derived.Test.YtkmcepeejleahaaQ3
namespace Go.Proofs.Ytkmcepeejleahaa.Q
open Go.RowKit Go.Proofs.YtkmcepeejleahaaW.PrintWords Go.Proofs.YtkmcepeejleahaaW.PrintLast Go.Proofs.YtkmcepeejleahaaW.PrintMore Go.Proofs.Ytkmcepeejleahaa.M
set_option linter.unusedVariables false
set_option linter.unusedSimpArgs false

/-! ### the example -/
abbrev sA : ByteArray := ⟨#[97]⟩
abbrev sB : ByteArray := ⟨#[98]⟩
abbrev sC : ByteArray := ⟨#[99]⟩
abbrev exN : List ByteArray := [sA, sB, sC]
abbrev exE : List S40 := [⟨sA, sC⟩, ⟨sB, sA⟩]
theorem exA : sA ≠ sB ∧ sA ≠ sC ∧ sB ≠ sC ∧ sB ≠ sA ∧ sC ≠ sA ∧ sC ≠ sB := by decide
theorem run_unique {zs : List ByteArray} {es : List S40} {out : List ByteArray} {r r' : List ByteArray × Int} (h : Run zs es out r) (h' : Run zs es out r') : r = r' := by
  induction h with
  | done hl => cases h' with
    | done _ => rfl
    | stuck hl' _ => omega
    | step hl' _ _ _ _ => omega
  | stuck hl hs => cases h' with
    | done hl' => omega
    | stuck _ _ => rfl
    | step _ hx hc _ _ => exact absurd hc (hs _ hx)
  | @step out x r hl hx hc hm _ ih => cases h' with
    | done hl' => omega
    | stuck _ hs => exact absurd hc (hs _ hx)
    | @step _ x' _ _ hx' hc' hm' h2 =>
      have e : x' = x := by
        rcases hm x' hx' hc' with e | e
        · exact e
        · rcases hm' x hx hc with e2 | e2
          · exact e2.symm
          · exact absurd e2 (ltS_asymm e)
      subst e
      exact ih h2
theorem ex_run : Run exN exE [] ([sC, sA, sB], 0) := by
  obtain ⟨h1, h2, h3, h4, h5, h6⟩ := exA
  have o1 : ltS sA sB := by unfold ltS; decide
  have c : ∀ out y, Cand exE out y ↔ (y ∉ out ∧ (sA = y → sC ∈ out) ∧ (sB = y → sA ∈ out)) := by
    intro out y
    simp [Cand, Rdy]
  refine .step (x := sC) (by simp) (by simp) ((c _ _).2 (by simp [h1, h2, h3])) (fun y hy hc => ?_) (.step (x := sA) (by simp) (by simp) ((c _ _).2 (by simp [h1, h2, h3, h4, h5, h6])) (fun y hy hc => ?_) (.step (x := sB) (by simp) (by simp) ((c _ _).2 (by simp [h1, h2, h3, h4, h5, h6])) (fun y hy hc => ?_) (.done (by simp))))
  · rw [c] at hc
    simp at hy
    rcases hy with e | e | e <;> subst e
    · simp at hc
    · simp at hc
    · exact .inl rfl
  · rw [c] at hc
    simp at hy
    rcases hy with e | e | e <;> subst e
    · exact .inl rfl
    · exact .inr o1
    · simp at hc
  · rw [c] at hc
    simp at hy
    rcases hy with e | e | e <;> subst e
    · simp at hc
    · exact .inl rfl
    · simp at hc
theorem okS_small {x : ByteArray} (h : x.size ≤ 1) : okS x := by unfold okS maxLen; omega
theorem ex_order : graph_Order.f exN exE = some ([sC, sA, sB], 0) := by
  have hn : exN.Nodup := by decide
  have hin : ∀ e ∈ exE, e.f0 ∈ exN ∧ e.f1 ∈ exN := by
    intro e he
    simp at he
    rcases he with e1 | e1 <;> subst e1 <;> simp
  unfold graph_Order.f
  rw [grd_yes ⟨⟨by decide, fun z hz => okS_small (by simp at hz; rcases hz with e | e | e <;> subst e <;> decide)⟩, by decide, fun e he => by
    simp at he
    rcases he with e1 | e1 <;> subst e1 <;> exact ⟨okS_small (by decide), okS_small (by decide)⟩⟩]
  rw [run_unique (orderF_run hn hin) ex_run]
theorem awake_ev : Ev (fun k => flagstonelaw10_awake.f k) true := by
  obtain ⟨K, h1⟩ := same_ev [sC, sA, sB] (by decide)
  refine ⟨K, fun k hk => ?_⟩
  unfold flagstonelaw10_awake.f
  rw [show graph_Order.f _ _ = _ from ex_order]
  simp only [Option.bind_some, if_true]
  rw [show flagstoneref1_Same.f k _ _ = _ from h1 k hk]
  rfl

/-! ### nodes -/
theorem allN_nodup : allN.Nodup := by decide
theorem allN_small : ∀ x ∈ allN, x.size ≤ 1 := by decide
theorem turnL_perm (l : List ByteArray) (k : Nat) : (turnL l k).Perm l := by
  unfold turnL
  exact (List.perm_append_comm).trans (by rw [List.take_append_drop])
theorem nodesF_cases (n t : Int) : (nodesF n t).Perm (allN.take (n % 9).toNat) := by
  unfold nodesF
  split
  · rename_i h; rw [h]; simp
  · exact turnL_perm _ _
theorem nodesF_nodup (n t : Int) : (nodesF n t).Nodup := (nodesF_cases n t).nodup_iff.2 (allN_nodup.sublist (List.take_sublist _ _))
theorem nodesF_len (n t : Int) : (nodesF n t).length ≤ 8 := by
  rw [(nodesF_cases n t).length_eq]
  simp [allN]
  omega
theorem nodesF_ok (n t : Int) : okL (nodesF n t) := fun z hz => okS_small (allN_small z (List.mem_of_mem_take ((nodesF_cases n t).mem_iff.1 hz)))
theorem nodesF_mem (n t t' : Int) (x : ByteArray) : x ∈ nodesF n t ↔ x ∈ nodesF n t' := by rw [(nodesF_cases n t).mem_iff, (nodesF_cases n t').mem_iff]
theorem nodes_f {a b : Int} (ha : (Lit.int .i64 a).wf = true) (hb : (Lit.int .i64 b).wf = true) : flagstonelaw10_nodes.f a b = some (nodesF a b) := by unfold flagstonelaw10_nodes.f; rw [grd_yes ⟨ha, hb⟩]

/-! ### edges -/
theorem u8_wf {x : Int} (h : (Lit.int .u8 x).wf = true) : 0 ≤ x ∧ x ≤ 255 := by
  simp [Lit.wf, IntKind.min, IntKind.max, IntKind.signed, IntKind.bits] at h
  exact h
theorem next_f {s : List Int} (hs : ∀ x ∈ s, 0 ≤ x ∧ x ≤ 255) (hl : s.length ≤ 100000) {i n : Int} (h0 : 0 ≤ i) (hi : i ≤ s.length) (hn : 0 < n) : ∃ v j, flagstonedraw_Codes_Next.f s i n = some (v, j) ∧ 0 ≤ v ∧ v < n ∧ i ≤ j ∧ j ≤ s.length ∧ (i < s.length → j = i + 1) := by
  unfold flagstonedraw_Codes_Next.f flagstonedraw_Codes_Left.f
  simp only [Option.bind_some, decide_eq_true_eq]
  by_cases hlt : i < (s.length : Int)
  · have e1 : wrap64 (i + 1) = i + 1 := by unfold wrap64; omega
    have e2 : wrap64 (i + 1 - 1) = i := by unfold wrap64; omega
    have hr : rd s i ∈ s := by
      unfold rd
      rw [List.getD_eq_getElem?_getD, List.getElem?_eq_getElem (show i.toNat < s.length by omega)]
      exact List.getElem_mem _
    have hb := hs _ hr
    have e3 : wrap64 (rd s i) = rd s i := by unfold wrap64; omega
    refine ⟨Int.tmod (rd s i) n, i + 1, ?_, ?_, ?_, by omega, by omega, fun _ => rfl⟩
    · rw [if_pos hlt, e1, e2, if_pos h0, if_pos hlt, if_neg (by omega), e3]
    · rw [Int.tmod_eq_emod_of_nonneg hb.1]; exact Int.emod_nonneg _ (by omega)
    · rw [Int.tmod_eq_emod_of_nonneg hb.1]; exact Int.emod_lt_of_pos _ hn
  · exact ⟨0, i, by rw [if_neg hlt], by omega, hn, by omega, hi, fun h => absurd h hlt⟩
/-- what edges makes -/
structure Made (l : List ByteArray) (up : Bool) (x : List S40) : Prop where
  in_ : ∀ e ∈ x, e.f0 ∈ l ∧ e.f1 ∈ l
  down : up = false → ∀ e ∈ x, ltS e.f1 e.f0
theorem Made.snoc {l : List ByteArray} {up : Bool} {x : List S40} {a b : ByteArray} (h : Made l up x) (ha : a ∈ l) (hb : b ∈ l) (hd : up = false → ltS b a) : Made l up (x ++ [⟨a, b⟩]) := by
  refine ⟨fun e he => ?_, fun hu e he => ?_⟩
  · rcases List.mem_append.1 he with e1 | e1
    · exact h.in_ e e1
    · rw [List.mem_singleton] at e1; rw [e1]; exact ⟨ha, hb⟩
  · rcases List.mem_append.1 he with e1 | e1
    · exact h.down hu e e1
    · rw [List.mem_singleton] at e1; rw [e1]; exact hd hu
theorem edges_loop (l : List ByteArray) (s : List Int) (up : Bool) (hs : ∀ x ∈ s, 0 ≤ x ∧ x ≤ 255) (hl : s.length ≤ 30) (hl2 : l.length ≤ 256) : ∀ (d : Nat) (i : Int) (x : List S40), 0 ≤ i → i ≤ s.length → (s.length : Int) - i ≤ d → Made l up x → (x.length : Int) ≤ i →
    ∃ r, Ev (fun k => flagstonelaw10_edges.l0 k l up x s i) r ∧ Made l up r ∧ r.length ≤ 30 := by
  intro d
  induction d with
  | zero =>
    intro i x h0 h1 hd hm hx
    refine ⟨x, Ev.step (f := fun k => flagstonelaw10_edges.j1 k l up x false s i) (fun k => ?_) (Ev.step (f := fun _ => some x) (fun k => ?_) (Ev.now _)), hm, by omega⟩
    · simp only [flagstonelaw10_edges.l0, flagstonedraw_Codes_Left.f, Option.bind_some, decide_eq_true_eq]
      rw [if_neg (by omega)]
    · simp only [flagstonelaw10_edges.j1]
      simp
  | succ d ih =>
    intro i x h0 h1 hd hm hx
    by_cases hlt : i < (s.length : Int)
    · by_cases hne : (l.length : Int) > 0
      · obtain ⟨v1, j1, e1, a1, b1, c1, d1, f1⟩ := next_f hs (by omega) h0 h1 hne
        obtain ⟨v2, j2, e2, a2, b2, c2, d2, f2⟩ := next_f hs (by omega) (show (0 : Int) ≤ j1 by omega) d1 hne
        have hj1 := f1 hlt
        have m1 := rdS_mem a1 b1
        have m2 := rdS_mem a2 b2
        have hnx : (s.length : Int) - j2 ≤ d := by omega
        have pre : ∀ k, flagstonelaw10_edges.l0 (k + 1) l up x s i = flagstonelaw10_edges.j1 k l up x true s i := fun k => by
          simp only [flagstonelaw10_edges.l0, flagstonedraw_Codes_Left.f, Option.bind_some, decide_eq_true_eq]
          rw [if_pos hlt, decide_eq_true hne]
        have body : ∀ k, flagstonelaw10_edges.j1 (k + 1) l up x true s i = if up = true then (if x.length < 4398046511104 then (flagstonelaw10_edges.l0 k l up (x ++ [⟨rdOf ByteArray.empty l v1, rdOf ByteArray.empty l v2⟩]) s j2) else none) else (if ((Op.bytesLess ((rdOf ByteArray.empty l v2).toList) ((rdOf ByteArray.empty l v1).toList)) = true) then (if x.length < 4398046511104 then (flagstonelaw10_edges.l0 k l up (x ++ [⟨rdOf ByteArray.empty l v1, rdOf ByteArray.empty l v2⟩]) s j2) else none) else (flagstonelaw10_edges.l0 k l up x s j2)) := fun k => by
          simp only [flagstonelaw10_edges.j1]
          rw [if_pos trivial, e1]
          simp only [Option.bind_some]
          rw [if_pos a1, if_pos b1, e2]
          simp only [Option.bind_some]
          rw [if_pos a2, if_pos b2]
        have hlen : x.length < 4398046511104 := by omega
        cases up with
        | true =>
          obtain ⟨r, hr, hmr⟩ := ih j2 (x ++ [⟨rdOf ByteArray.empty l v1, rdOf ByteArray.empty l v2⟩]) (by omega) d2 hnx (hm.snoc m1 m2 (fun h => (by cases h))) (by simp; omega)
          refine ⟨r, Ev.step pre (Ev.step (fun k => ?_) hr), hmr⟩
          rw [body, if_pos rfl, if_pos hlen]
        | false =>
          rcases Classical.em (ltS (rdOf ByteArray.empty l v2) (rdOf ByteArray.empty l v1)) with hls | hls
          · obtain ⟨r, hr, hmr⟩ := ih j2 (x ++ [⟨rdOf ByteArray.empty l v1, rdOf ByteArray.empty l v2⟩]) (by omega) d2 hnx (hm.snoc m1 m2 (fun _ => hls)) (by simp; omega)
            refine ⟨r, Ev.step pre (Ev.step (fun k => ?_) hr), hmr⟩
            rw [body, if_neg (by simp), if_pos (less_true hls), if_pos hlen]
          · obtain ⟨r, hr, hmr⟩ := ih j2 x (by omega) d2 hnx hm (by omega)
            refine ⟨r, Ev.step pre (Ev.step (fun k => ?_) hr), hmr⟩
            rw [body, if_neg (by simp), if_neg (by rw [less_false hls]; simp)]
      · refine ⟨x, Ev.step (f := fun k => flagstonelaw10_edges.j1 k l up x false s i) (fun k => ?_) (Ev.step (f := fun _ => some x) (fun k => ?_) (Ev.now _)), hm, by omega⟩
        · simp only [flagstonelaw10_edges.l0, flagstonedraw_Codes_Left.f, Option.bind_some, decide_eq_true_eq]
          rw [if_pos hlt, decide_eq_false hne]
        · simp only [flagstonelaw10_edges.j1]
          simp
    · refine ⟨x, Ev.step (f := fun k => flagstonelaw10_edges.j1 k l up x false s i) (fun k => ?_) (Ev.step (f := fun _ => some x) (fun k => ?_) (Ev.now _)), hm, by omega⟩
      · simp only [flagstonelaw10_edges.l0, flagstonedraw_Codes_Left.f, Option.bind_some, decide_eq_true_eq]
        rw [if_neg hlt]
      · simp only [flagstonelaw10_edges.j1]
        simp
theorem edges_ev (l : List ByteArray) (codes : List Int) (up : Bool) (hl : l.length ≤ 256) (hc : ∀ x ∈ codes, (Lit.int .u8 x).wf = true) : ∃ r, Ev (fun k => flagstonelaw10_edges.f k l codes up) r ∧ Made l up r ∧ r.length ≤ 30 := by
  have hw : ∀ x ∈ codes, 0 ≤ x ∧ x ≤ 255 := fun x hx => u8_wf (hc x hx)
  by_cases h : (codes.length : Int) > 30
  · obtain ⟨r, hr, hm⟩ := edges_loop l (codes.take (30 : Int).toNat) up (fun x hx => hw x (List.mem_of_mem_take hx)) (by simp; omega) hl 30 0 [] (by omega) (by omega) (by simp; omega) ⟨by simp, by simp⟩ (by simp)
    refine ⟨r, Ev.congr (fun k => ?_) hr, hm⟩
    unfold flagstonelaw10_edges.f flagstonedraw_New.f
    rw [if_pos h, if_pos (by omega), if_pos (by omega)]
    rfl
  · obtain ⟨r, hr, hm⟩ := edges_loop l codes up hw (by omega) hl 30 0 [] (by omega) (by omega) (by omega) ⟨by simp, by simp⟩ (by simp)
    refine ⟨r, Ev.congr (fun k => ?_) hr, hm⟩
    unfold flagstonelaw10_edges.f flagstonedraw_New.f
    rw [if_neg h]
    rfl
theorem Made.ok {l : List ByteArray} {up : Bool} {x : List S40} (h : Made l up x) (hl : okL l) : okE x := fun e he => ⟨hl _ (h.in_ e he).1, hl _ (h.in_ e he).2⟩
theorem order_f {l : List ByteArray} {x : List S40} (hl : l.length ≤ 1000000) (ho : okL l) (hx : x.length ≤ 1000000) (hk : okE x) : graph_Order.f l x = some (orderF l x) := by unfold graph_Order.f; rw [grd_yes ⟨⟨hl, ho⟩, hx, hk⟩]
theorem needs_f {x : List S40} {a : ByteArray} (hx : x.length ≤ 1000000) (hk : okE x) (ha : okS a) : graph_Needs.f x a = some (needF x a) := by unfold graph_Needs.f; rw [grd_yes ⟨⟨hx, hk⟩, ha⟩]
theorem cyclic_f {l : List ByteArray} {x : List S40} (hl : l.length ≤ 1000000) (ho : okL l) (hx : x.length ≤ 1000000) (hk : okE x) : graph_Cyclic.f l x = some (cycF l x) := by unfold graph_Cyclic.f; rw [grd_yes ⟨⟨hl, ho⟩, hx, hk⟩]
end Go.Proofs.Ytkmcepeejleahaa.Q
