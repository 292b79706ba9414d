/-
  Diagrams, plainly: stores that are well formed, Node, choose. No condition.
  Diagrams: Node by its plain law; leaf; what choose leaves. No condition beyond those that stand in each.
  Diagrams: the walks of choose. No condition beyond those that stand in each. (Written by wip/tools/gen_choose.py.)
  Diagrams: the walk of choose, its rounds. No condition beyond those that stand in each.
  Diagrams: the walk of the document's choose, its rounds; choose of both stores by its plain law. No condition beyond those that stand in each.
-/
import Derived.Test.YtihikenmknphkaaEA
import Derived.Outline
namespace Go.Proofs.Ytihikenmknphkaa.Q
open Go Go.RowKit Go.Maps Go.Proofs.YtihikenmknphkaaW.PrintWords Go.Proofs.YtihikenmknphkaaW.PrintLast Go.Proofs.YtihikenmknphkaaW.PrintMore Go.Proofs.Ytihikenmknphkaa.M
set_option linter.unusedVariables false
set_option linter.unusedSimpArgs false

/-- each node leads to elder ones, its test is less than theirs, its ways differ; each is there once -/
structure WF (ns : List N39) : Prop where
  nd : ∀ (i : Nat) (h : i < ns.length), (0 ≤ ns[i].f0 ∧ ns[i].f0 ≤ 1000) ∧ (-1002 < ns[i].f1 ∧ ns[i].f1 < (i : Int)) ∧ (-1002 < ns[i].f2 ∧ ns[i].f2 < (i : Int)) ∧ ns[i].f0 < topN ns ns[i].f1 ∧ ns[i].f0 < topN ns ns[i].f2 ∧ ns[i].f1 ≠ ns[i].f2
  once : ns.Nodup
theorem WF.nil : WF [] := ⟨fun i h => absurd h (by simp), by simp⟩
theorem rd_nat39 {ns : List N39} {i : Nat} (h : i < ns.length) : rd_T39 ns (i : Int) = ns[i] := by
  unfold rd_T39
  rw [List.getD_eq_getElem?_getD, Int.toNat_natCast, List.getElem?_eq_getElem h]
  rfl
theorem rd_int39 {ns : List N39} {i : Int} (h0 : 0 ≤ i) (h : i < (ns.length : Int)) : ∃ (hi : i.toNat < ns.length), rd_T39 ns i = ns[i.toNat] := by
  refine ⟨by omega, ?_⟩
  have := rd_nat39 (ns := ns) (i := i.toNat) (by omega)
  rwa [Int.toNat_of_nonneg h0] at this
theorem rd_app {ns ms : List N39} {i : Int} (h : i < (ns.length : Int)) (h0 : 0 ≤ i) : rd_T39 (ns ++ ms) i = rd_T39 ns i := by
  obtain ⟨h1, e1⟩ := rd_int39 h0 h
  obtain ⟨h2, e2⟩ := rd_int39 (ns := ns ++ ms) h0 (by simp; omega)
  rw [e1, e2, List.getElem_append_left h1]
theorem top_app {ns ms : List N39} {i : Int} (h : i < (ns.length : Int)) : topN (ns ++ ms) i = topN ns i := by
  unfold topN
  by_cases h0 : i < 0
  · rw [if_pos h0, if_pos h0]
  · rw [if_neg h0, if_neg h0, rd_app h (by omega)]
theorem cof_app {ns ms : List N39} {i t : Int} (h : i < (ns.length : Int)) (ht : t < 1001) : cofN (ns ++ ms) i t = cofN ns i t := by
  unfold cofN
  rw [top_app h]
  by_cases e : topN ns i = t
  · have h0 : 0 ≤ i := by
      unfold topN at e
      split at e
      · omega
      · omega
    rw [if_pos e, if_pos e, rd_app h h0]
  · rw [if_neg e, if_neg e]
theorem valid_app {ns ms : List N39} {i : Int} (h : validN ns i = true) : validN (ns ++ ms) i = true := by
  have := valid_lt h
  unfold validN
  simp
  omega
theorem valid_iff {ns : List N39} {i : Int} : validN ns i = true ↔ -1002 < i ∧ i < (ns.length : Int) := by unfold validN; simp
theorem WF.snoc {ns : List N39} {t y n : Int} (h : WF ns) (ho : NodeOk ns t y n) (hne : y ≠ n) (hf : findN ns ⟨t, y, n⟩ = none) : WF (ns ++ [⟨t, y, n⟩]) := by
  have hy := valid_lt ho.vy
  have hn := valid_lt ho.vn
  refine ⟨fun i hi => ?_, ?_⟩
  · by_cases hlt : i < ns.length
    · have e : (ns ++ [(⟨t, y, n⟩ : N39)])[i] = ns[i] := List.getElem_append_left hlt
      rw [e]
      obtain ⟨a, b, c, d, f, g⟩ := h.nd i hlt
      exact ⟨a, b, c, by rw [top_app (by omega)]; exact d, by rw [top_app (by omega)]; exact f, g⟩
    · have hi2 : i = ns.length := by simp at hi; omega
      subst hi2
      have e : (ns ++ [(⟨t, y, n⟩ : N39)])[ns.length] = ⟨t, y, n⟩ := by simp
      rw [e]
      exact ⟨⟨ho.t0, ho.t1⟩, hy, hn, by rw [top_app hy.2]; exact ho.ty, by rw [top_app hn.2]; exact ho.tn, hne⟩
  · rw [List.nodup_append]
    refine ⟨h.once, by simp, fun a ha b hb => ?_⟩
    rw [List.mem_singleton] at hb
    rintro rfl
    exact findN_none hf (hb ▸ ha)
theorem WF.top_range {ns : List N39} (h : WF ns) {i : Int} (hi : i < (ns.length : Int)) : 0 ≤ topN ns i ∧ topN ns i ≤ 1001 := by
  unfold topN
  by_cases h0 : i < 0
  · rw [if_pos h0]; omega
  · rw [if_neg h0]
    obtain ⟨h1, e⟩ := rd_int39 (by omega) hi
    rw [e]
    have := (h.nd _ h1).1
    omega
/-- the ways of a diagram at a test are diagrams, whose tests are greater -/
theorem WF.cof {ns : List N39} (h : WF ns) {i t : Int} (hi : validN ns i = true) (ht : t ≤ topN ns i) (ht2 : t < 1001) :
    validN ns (cofN ns i t).1 = true ∧ validN ns (cofN ns i t).2 = true ∧ t < topN ns (cofN ns i t).1 ∧ t < topN ns (cofN ns i t).2 := by
  have hv := valid_lt hi
  unfold cofN
  by_cases e : topN ns i = t
  · rw [if_pos e]
    have h0 : 0 ≤ i := by
      unfold topN at e
      split at e <;> omega
    obtain ⟨h1, e1⟩ := rd_int39 h0 hv.2
    have e2 : topN ns i = ns[i.toNat].f0 := by unfold topN; rw [if_neg (by omega), e1]
    obtain ⟨a, b, c, d, f, g⟩ := h.nd _ h1
    rw [e1]
    dsimp only
    exact ⟨valid_iff.2 (by omega), valid_iff.2 (by omega), by omega, by omega⟩
  · rw [if_neg e]
    dsimp only
    exact ⟨hi, hi, by omega, by omega⟩

theorem nodeF_ok {ns ns' : List N39} {t y n r : Int} (h : WF ns) (hf : nodeF ns t y n = some (ns', r)) : WF ns' ∧ (∃ ms, ns' = ns ++ ms) ∧ ns'.length ≤ ns.length + 1 ∧ (r = -1002 ∨ validN ns' r = true) := by
  unfold nodeF at hf
  cases hr : refuses ns t y n with
  | true =>
    rw [hr] at hf
    simp at hf
    obtain ⟨rfl, rfl⟩ := hf
    exact ⟨h, ⟨[], by simp⟩, by omega, .inl rfl⟩
  | false =>
    rw [hr] at hf
    have ho := NodeOk.of hr
    simp only [Bool.false_eq_true, if_false] at hf
    by_cases e : y = n
    · rw [if_pos e] at hf
      simp at hf
      obtain ⟨rfl, rfl⟩ := hf
      exact ⟨h, ⟨[], by simp⟩, by omega, .inr ho.vy⟩
    · rw [if_neg e] at hf
      cases hfd : findN ns ⟨t, y, n⟩ with
      | some i =>
        rw [hfd] at hf
        simp at hf
        obtain ⟨rfl, rfl⟩ := hf
        obtain ⟨hi, _⟩ := findN_some hfd
        exact ⟨h, ⟨[], by simp⟩, by omega, .inr (valid_iff.2 (by omega))⟩
      | none =>
        rw [hfd] at hf
        simp only at hf
        by_cases hl : 4000 ≤ ns.length
        · rw [if_pos hl] at hf; cases hf
        · rw [if_neg hl] at hf
          simp at hf
          obtain ⟨rfl, rfl⟩ := hf
          exact ⟨h.snoc ho e hfd, ⟨_, rfl⟩, by simp, .inr (valid_iff.2 (by simp; omega))⟩

/-! ### choose -/
abbrev Memo := Lit → Option Int
def min3 (a b c : Int) : Int := min (min a b) c
noncomputable def chooseF : Nat → List N39 → Memo → Nat → Int → Int → Int → Option (List N39 × Memo × Nat × Int)
  | 0, _, _, _, _, _, _ => none
  | k + 1, ns, memo, c, f, g, h =>
    if f = -2 then some (ns, memo, c, g)
    else if f = -1 then some (ns, memo, c, h)
    else if f < 0 then none
    else if g = h then some (ns, memo, c, g)
    else match memo (kl3 f g h) with
      | some r => some (ns, memo, c, r)
      | none =>
        (chooseF k ns memo c (cofN ns f (min3 (topN ns f) (topN ns g) (topN ns h))).1 (cofN ns g (min3 (topN ns f) (topN ns g) (topN ns h))).1 (cofN ns h (min3 (topN ns f) (topN ns g) (topN ns h))).1).bind fun p =>
          if p.2.2.2 = -1002 then none else
          (chooseF k p.1 p.2.1 p.2.2.1 (cofN ns f (min3 (topN ns f) (topN ns g) (topN ns h))).2 (cofN ns g (min3 (topN ns f) (topN ns g) (topN ns h))).2 (cofN ns h (min3 (topN ns f) (topN ns g) (topN ns h))).2).bind fun q =>
            if q.2.2.2 = -1002 then none else
            (nodeF q.1 (min3 (topN ns f) (topN ns g) (topN ns h)) p.2.2.2 q.2.2.2).bind fun s =>
              if s.2 = -1002 then none else if 1000000000 ≤ q.2.2.1 then none else some (s.1, upd q.2.1 (kl3 f g h) s.2, q.2.2.1 + 1, s.2)
def MemOk (ns : List N39) (memo : Memo) : Prop := ∀ kl r, memo kl = some r → validN ns r = true
theorem MemOk.app {ns ms : List N39} {memo : Memo} (h : MemOk ns memo) : MemOk (ns ++ ms) memo := fun kl r hr => valid_app (h kl r hr)
theorem choose_ok : ∀ (k : Nat) {ns ns' : List N39} {memo memo' : Memo} {c c' : Nat} {f g h r : Int}, WF ns → MemOk ns memo → validN ns f = true → validN ns g = true → validN ns h = true → chooseF k ns memo c f g h = some (ns', memo', c', r) →
    WF ns' ∧ (∃ ms, ns' = ns ++ ms) ∧ MemOk ns' memo' ∧ validN ns' r = true
  | 0, _, _, _, _, _, _, _, _, _, _, _, _, _, _, _, hc => by cases hc
  | k + 1, ns, ns', memo, memo', c, c', f, g, h, r, hw, hm, hf, hg, hh, hc => by
    unfold chooseF at hc
    by_cases e1 : f = -2
    · rw [if_pos e1] at hc
      simp at hc
      obtain ⟨rfl, rfl, rfl, rfl⟩ := hc
      exact ⟨hw, ⟨[], by simp⟩, hm, hg⟩
    rw [if_neg e1] at hc
    by_cases e2 : f = -1
    · rw [if_pos e2] at hc
      simp at hc
      obtain ⟨rfl, rfl, rfl, rfl⟩ := hc
      exact ⟨hw, ⟨[], by simp⟩, hm, hh⟩
    rw [if_neg e2] at hc
    by_cases e3 : f < 0
    · rw [if_pos e3] at hc; cases hc
    rw [if_neg e3] at hc
    by_cases e4 : g = h
    · rw [if_pos e4] at hc
      simp at hc
      obtain ⟨rfl, rfl, rfl, rfl⟩ := hc
      exact ⟨hw, ⟨[], by simp⟩, hm, hg⟩
    rw [if_neg e4] at hc
    cases hk : memo (kl3 f g h) with
    | some r0 =>
      rw [hk] at hc
      simp at hc
      obtain ⟨rfl, rfl, rfl, rfl⟩ := hc
      exact ⟨hw, ⟨[], by simp⟩, hm, hm _ _ hk⟩
    | none =>
      rw [hk] at hc
      simp only at hc
      have t1 := hw.top_range (valid_lt hf).2
      have t2 := hw.top_range (valid_lt hg).2
      have t3 := hw.top_range (valid_lt hh).2
      have tf : topN ns f ≤ 1000 := by
        unfold topN
        rw [if_neg e3]
        obtain ⟨hi, e⟩ := rd_int39 (by omega) (valid_lt hf).2
        rw [e]
        exact (hw.nd _ hi).1.2
      have hmf : min3 (topN ns f) (topN ns g) (topN ns h) ≤ topN ns f := by unfold min3; omega
      have hmg : min3 (topN ns f) (topN ns g) (topN ns h) ≤ topN ns g := by unfold min3; omega
      have hmh : min3 (topN ns f) (topN ns g) (topN ns h) ≤ topN ns h := by unfold min3; omega
      have hm1 : min3 (topN ns f) (topN ns g) (topN ns h) < 1001 := by omega
      generalize min3 (topN ns f) (topN ns g) (topN ns h) = t at hc hmf hmg hmh hm1
      obtain ⟨f1, f2, _, _⟩ := hw.cof hf hmf hm1
      obtain ⟨g1, g2, _, _⟩ := hw.cof hg hmg hm1
      obtain ⟨h1, h2, _, _⟩ := hw.cof hh hmh hm1
      obtain ⟨⟨ns1, memo1, c1, y⟩, hp, hc⟩ := Option.bind_eq_some_iff.1 hc
      obtain ⟨w1, ⟨ms1, rfl⟩, m1, v1⟩ := choose_ok k hw hm f1 g1 h1 hp
      simp only at hc
      by_cases ey : y = -1002
      · rw [if_pos ey] at hc; cases hc
      rw [if_neg ey] at hc
      obtain ⟨⟨ns2, memo2, c2, n⟩, hq, hc⟩ := Option.bind_eq_some_iff.1 hc
      obtain ⟨w2, ⟨ms2, rfl⟩, m2, v2⟩ := choose_ok k w1 m1 (valid_app f2) (valid_app g2) (valid_app h2) hq
      simp only at hc
      by_cases en : n = -1002
      · rw [if_pos en] at hc; cases hc
      rw [if_neg en] at hc
      obtain ⟨⟨ns3, r3⟩, hs, hc⟩ := Option.bind_eq_some_iff.1 hc
      obtain ⟨w3, ⟨ms3, rfl⟩, _, v3⟩ := nodeF_ok w2 hs
      simp only at hc
      by_cases er : r3 = -1002
      · rw [if_pos er] at hc; cases hc
      rw [if_neg er] at hc
      have v3' : validN (ns ++ ms1 ++ ms2 ++ ms3) r3 = true := v3.resolve_left er
      by_cases ec : 1000000000 ≤ c2
      · rw [if_pos ec] at hc; cases hc
      rw [if_neg ec] at hc
      simp at hc
      obtain ⟨rfl, rfl, rfl, rfl⟩ := hc
      rw [← List.append_assoc, ← List.append_assoc]
      refine ⟨w3, ⟨ms1 ++ ms2 ++ ms3, by simp⟩, fun kl r hr => ?_, v3'⟩
      by_cases e : kl = kl3 f g h
      · rw [e, upd_same] at hr
        injection hr with hr
        rw [← hr]; exact v3'
      · rw [upd_other _ _ e] at hr
        exact valid_app (m2 kl r hr)
end Go.Proofs.Ytihikenmknphkaa.Q

namespace Go.Proofs.Ytihikenmknphkaa.Q
open Go Go.RowKit Go.Maps Go.Proofs.YtihikenmknphkaaW.PrintWords Go.Proofs.YtihikenmknphkaaW.PrintLast Go.Proofs.YtihikenmknphkaaW.PrintMore Go.Proofs.Ytihikenmknphkaa.M
set_option linter.unusedVariables false
set_option linter.unusedSimpArgs false

def nodeCalls (T fn : Nat) : Prop := ∀ (S m : Nat) (v : Value) (ns ns' : List N39) (full : Bool) (t y n r : Int) (w : World), StAt T w S m v ns full → nodeF ns t y n = some (ns', r) →
    Calls Try.prog fn #[.pointer (some ⟨S, 0, none⟩), .int .i64 t, .int .i64 y, .int .i64 n] w (NodeEnd T w S m v ns' full r)
theorem nodeF_split {ns ns' : List N39} {t y n r : Int} (h : nodeF ns t y n = some (ns', r)) :
    (refuses ns t y n = true ∧ ns' = ns ∧ r = -1002) ∨ (refuses ns t y n = false ∧ y = n ∧ ns' = ns ∧ r = y) ∨ (refuses ns t y n = false ∧ ¬ y = n ∧ ∃ i : Nat, findN ns ⟨t, y, n⟩ = some i ∧ ns' = ns ∧ r = (i : Int)) ∨ (refuses ns t y n = false ∧ ¬ y = n ∧ findN ns ⟨t, y, n⟩ = none ∧ ns.length < 4000 ∧ ns' = ns ++ [⟨t, y, n⟩] ∧ r = (ns.length : Int)) := by
  unfold nodeF at h
  cases hr : refuses ns t y n with
  | true => rw [hr] at h; simp at h; exact .inl ⟨rfl, h.1.symm, h.2.symm⟩
  | false =>
    rw [hr] at h
    simp only [Bool.false_eq_true, if_false] at h
    by_cases e : y = n
    · rw [if_pos e] at h; simp at h; exact .inr (.inl ⟨rfl, e, h.1.symm, h.2.symm⟩)
    · rw [if_neg e] at h
      cases hf : findN ns ⟨t, y, n⟩ with
      | some i => rw [hf] at h; simp at h; exact .inr (.inr (.inl ⟨rfl, e, i, rfl, h.1.symm, h.2.symm⟩))
      | none =>
        rw [hf] at h
        simp only at h
        by_cases hl : 4000 ≤ ns.length
        · rw [if_pos hl] at h; cases h
        · rw [if_neg hl] at h; simp at h; exact .inr (.inr (.inr ⟨rfl, e, rfl, by omega, h.1.symm, h.2.symm⟩))
set_option maxHeartbeats 2000000 in
theorem nodeR_refuses (S m : Nat) (v : Value) (ns : List N39) (full : Bool) (t y n : Int) (w : World) (hS : StAt 67 w S m v ns full) (hr : refuses ns t y n = true) :
    Calls Try.prog 27 #[.pointer (some ⟨S, 0, none⟩), .int .i64 t, .int .i64 y, .int .i64 n] w fun e w' => e = .returned (.int .i64 (-1002)) ∧ w = w' := by
  have HS := Aside0.mk hS
  have HR : Aside0 (refuses ns t y n = (decide (t < 0) || decide (1000 < t) || !validN ns y || !validN ns n || decide (topN ns y ≤ t) || decide (topN ns n ≤ t))) := ⟨rfl⟩
  have HRR := Aside0.mk hr
  clear hS hr
  by_cases h1 : t < 0
  · have d1 : decide (t < 0) = true := by simpa using h1
    go_enter Try.func27, Try.ntmps27
    go_wp2
    go_ret
    exact ⟨rfl, rfl⟩
  have d1 : decide (t < 0) = false := by simpa using h1
  by_cases h2 : 1000 < t
  · have d2 : decide (1000 < t) = true := by simpa using h2
    go_enter Try.func27, Try.ntmps27
    go_wp2
    go_ret
    exact ⟨rfl, rfl⟩
  have d2 : decide (1000 < t) = false := by simpa using h2
  cases h3 : validN ns y with
  | false =>
    have HY := Aside0.mk h3
    clear h3 HR HRR
    go_enter Try.func27, Try.ntmps27
    go_wp2_with (go_at_call 42; refine (validR_calls S m v ns full _ _ HS.out).mono ?_; rintro e w' ⟨rfl, rfl⟩; rw [HY.out])
    go_ret
    exact ⟨rfl, rfl⟩
  | true =>
    have HY := Aside0.mk h3
    clear h3
    cases h4 : validN ns n with
    | false =>
      have HN := Aside0.mk h4
      clear h4 HR HRR
      go_enter Try.func27, Try.ntmps27
      go_wp2_with (go_at_call 42; refine (validR_calls S m v ns full _ _ HS.out).mono ?_; rintro e w' ⟨rfl, rfl⟩; first | rw [HY.out] | rw [HN.out])
      go_ret
      exact ⟨rfl, rfl⟩
    | true =>
      have HN := Aside0.mk h4
      have HYL : Aside0 (y < (ns.length : Int)) := ⟨by have := HY.out; unfold validN at this; simp at this; exact this.2⟩
      have HNL : Aside0 (n < (ns.length : Int)) := ⟨by have := HN.out; unfold validN at this; simp at this; exact this.2⟩
      clear h4
      by_cases h5 : topN ns y ≤ t
      · have H5 := Aside0.mk h5
        have d5 : decide (topN ns y ≤ t) = true := by simpa using h5
        clear h5 HR HRR
        have k5 := topR_calls S m v ns full y w HS.out HYL.out
        generalize topN ns y = ty at d5 k5 H5
        go_enter Try.func27, Try.ntmps27
        go_wp2_with (first | (go_at_call 42; refine (validR_calls S m v ns full _ _ HS.out).mono ?_; rintro e w' ⟨rfl, rfl⟩; first | rw [HY.out] | rw [HN.out]) | (go_at_call 47; (with_reducible refine k5.mono ?_); rintro e w' ⟨rfl, rfl⟩))
        go_ret
        exact ⟨rfl, rfl⟩
      · have h6 : topN ns n ≤ t := by
          have := HRR.out
          rw [HR.out, d1, d2, HY.out, HN.out, show decide (topN ns y ≤ t) = false by simpa using h5] at this
          simpa using this
        have d5 : decide (topN ns y ≤ t) = false := by simpa using h5
        have d6 : decide (topN ns n ≤ t) = true := by simpa using h6
        clear h5 h6 HR HRR
        have k5 := topR_calls S m v ns full y w HS.out HYL.out
        have k6 := topR_calls S m v ns full n w HS.out HNL.out
        generalize topN ns y = ty at d5 k5
        generalize topN ns n = tn at d6 k6
        go_enter Try.func27, Try.ntmps27
        go_wp2_with (first | (go_at_call 42; refine (validR_calls S m v ns full _ _ HS.out).mono ?_; rintro e w' ⟨rfl, rfl⟩; first | rw [HY.out] | rw [HN.out]) | (go_at_call 47; (with_reducible refine k5.mono ?_); rintro e w' ⟨rfl, rfl⟩) | (go_at_call 47; (with_reducible refine k6.mono ?_); rintro e w' ⟨rfl, rfl⟩))
        go_ret
        exact ⟨rfl, rfl⟩

theorem nodeP_calls : nodeCalls 58 18 := by
  intro S m v ns ns' full t y n r w hS h
  rcases nodeF_split h with ⟨h1, rfl, rfl⟩ | ⟨h1, h2, rfl, rfl⟩ | ⟨h1, h2, i, h3, rfl, rfl⟩ | ⟨h1, h2, h3, h4, rfl, rfl⟩
  · refine (nodeP_refuses S m v _ full t y n w hS h1).mono ?_
    rintro e w' ⟨rfl, rfl⟩
    exact ⟨rfl, v, hS, Fr.refl _ _, .inl rfl⟩
  · exact nodeP_same S m v _ full t _ n w hS h1 h2
  · exact nodeP_has S m v _ full t y n w hS h1 h2 i h3
  · exact nodeP_goes S m v ns full t y n w hS h1 h2 h3 h4

theorem nodeR_calls : nodeCalls 67 27 := by
  intro S m v ns ns' full t y n r w hS h
  rcases nodeF_split h with ⟨h1, rfl, rfl⟩ | ⟨h1, h2, rfl, rfl⟩ | ⟨h1, h2, i, h3, rfl, rfl⟩ | ⟨h1, h2, h3, h4, rfl, rfl⟩
  · refine (nodeR_refuses S m v _ full t y n w hS h1).mono ?_
    rintro e w' ⟨rfl, rfl⟩
    exact ⟨rfl, v, hS, Fr.refl _ _, .inl rfl⟩
  · exact nodeR_same S m v _ full t _ n w hS h1 h2
  · exact nodeR_has S m v _ full t y n w hS h1 h2 i h3
  · exact nodeR_goes S m v ns full t y n w hS h1 h2 h3 h4

/-- what a map of numbers holds, told by a memory -/
def memF (memo : Memo) : Lit → Option Value := fun kl => (memo kl).map (Value.int .i64)
theorem memF_upd (memo : Memo) (kl : Lit) (r : Int) : upd (memF memo) kl (.int .i64 r) = memF (upd memo kl r) := by
  funext x
  by_cases h : x = kl
  · rw [h, upd_same]; unfold memF; rw [upd_same]; rfl
  · rw [upd_other _ _ h]; unfold memF; rw [upd_other _ _ h]
theorem leafQ_calls (f : Int) (w : World) (h0 : -1000000 ≤ f) (h1 : f ≤ 1000000) : Calls Try.prog 59 #[.int .i64 f] w fun e w' => e = .returned (.tuple #[.int .i64 (-1 - f), .bool (decide (f < 0) && decide (-1002 < f))]) ∧ w = w' := by
  by_cases h2 : f < 0
  · have d1 : decide (f < 0) = true := by simpa using h2
    by_cases h3 : -1002 < f
    · have d2 : decide (-1002 < f) = true := by simpa using h3
      rw [d1, d2]
      go_enter Try.func59, Try.ntmps59
      go_wp2
      go_ret2
      exact ⟨rfl, rfl⟩
    · have d2 : decide (-1002 < f) = false := by simpa using h3
      rw [d1, d2]
      go_enter Try.func59, Try.ntmps59
      go_wp2
      go_ret2
      exact ⟨rfl, rfl⟩
  · have d1 : decide (f < 0) = false := by simpa using h2
    rw [d1]
    go_enter Try.func59, Try.ntmps59
    go_wp2
    go_ret2
    exact ⟨rfl, rfl⟩
/-- what choose leaves: the store and the memory told anew -/
def ChooseEnd (T : Nat) (w : World) (S m : Nat) (v : Value) (mm : Nat) (ns' : List N39) (full : Bool) (memo' : Memo) (c' : Nat) (r : Int) (e : Ending) (w' : World) : Prop :=
  e = .returned (.int .i64 r) ∧ ∃ v', StAt T w' S m v' ns' full ∧ MapIs Try.prog 79 w' mm c' (memF memo') ∧ Fr w w' (fun k => ownS S m v k ∨ k = mm) ∧ (v'.ownBlock = v.ownBlock ∨ ∃ b, v'.ownBlock = some b ∧ w.heap.size ≤ b)
theorem own_step {S m : Nat} {v v' : Value} {n : Nat} (h : v'.ownBlock = v.ownBlock ∨ ∃ b, v'.ownBlock = some b ∧ n ≤ b) {k : Nat} (hk : ownS S m v' k) : ownS S m v k ∨ n ≤ k := by
  rcases hk with e | e | e
  · exact .inl (.inl e)
  · exact .inl (.inr (.inl e))
  · rcases h with h | ⟨b, h, hb⟩
    · exact .inl (.inr (.inr (h ▸ e)))
    · rw [h] at e; injection e with e; exact .inr (e ▸ hb)
theorem hat_trans {v v1 v2 : Value} {n n1 : Nat} (h : v1.ownBlock = v.ownBlock ∨ ∃ b, v1.ownBlock = some b ∧ n ≤ b) (k : v2.ownBlock = v1.ownBlock ∨ ∃ b, v2.ownBlock = some b ∧ n1 ≤ b) (hn : n ≤ n1) : v2.ownBlock = v.ownBlock ∨ ∃ b, v2.ownBlock = some b ∧ n ≤ b := by
  rcases k with k | ⟨b, k, hb⟩
  · rw [k]; exact h
  · exact .inr ⟨b, k, Nat.le_trans hn hb⟩
def chooseCalls (T fn k : Nat) : Prop := ∀ (ns ns' : List N39) (memo memo' : Memo) (c c' : Nat) (f g h r : Int) (S m mm : Nat) (v : Value) (full : Bool) (w : World), WF ns → MemOk ns memo → validN ns f = true → validN ns g = true → validN ns h = true → chooseF k ns memo c f g h = some (ns', memo', c', r) →
    StAt T w S m v ns full → MapIs Try.prog 79 w mm c (memF memo) → mm ≠ m → Calls Try.prog fn #[.pointer (some ⟨S, 0, none⟩), .int .i64 f, .int .i64 g, .int .i64 h, .map (some mm)] w (ChooseEnd T w S m v mm ns' full memo' c' r)
end Go.Proofs.Ytihikenmknphkaa.Q

namespace Go.Proofs.Ytihikenmknphkaa.Q
open Go Go.RowKit Go.Maps Go.Proofs.YtihikenmknphkaaW.PrintWords Go.Proofs.YtihikenmknphkaaW.PrintLast Go.Proofs.YtihikenmknphkaaW.PrintMore Go.Proofs.Ytihikenmknphkaa.M
attribute [local go_sem] max2_int min2_int max_two min_two max_three min_three max_four min_four
set_option linter.unusedVariables false
set_option linter.unusedSimpArgs false

set_option maxRecDepth 100000 in
set_option maxHeartbeats 2000000 in
theorem chooseP_leaf (f g h : Int) (S mm : Nat) (w : World) (hf : f = -2 ∨ f = -1) :
    Calls Try.prog 49 #[.pointer (some ⟨S, 0, none⟩), .int .i64 f, .int .i64 g, .int .i64 h, .map (some mm)] w fun e w' => e = .returned (.int .i64 (if f = -2 then g else h)) ∧ w = w' := by
  rcases hf with rfl | rfl
  · rw [if_pos rfl]
    go_enter Try.func49, Try.ntmps49
    go_wp2_with (go_at_call 59; refine (leafQ_calls (-2) _ (by decide) (by decide)).mono ?_; rintro e w' ⟨rfl, rfl⟩)
    go_ret
    exact ⟨rfl, rfl⟩
  · rw [if_neg (by decide)]
    go_enter Try.func49, Try.ntmps49
    go_wp2_with (go_at_call 59; refine (leafQ_calls (-1) _ (by decide) (by decide)).mono ?_; rintro e w' ⟨rfl, rfl⟩)
    go_ret
    exact ⟨rfl, rfl⟩
set_option maxRecDepth 100000 in
set_option maxHeartbeats 2000000 in
theorem chooseP_same (f g h : Int) (S mm : Nat) (w : World) (hf : 0 ≤ f) (hf1 : f ≤ 100000) (hgh : g = h) :
    Calls Try.prog 49 #[.pointer (some ⟨S, 0, none⟩), .int .i64 f, .int .i64 g, .int .i64 h, .map (some mm)] w fun e w' => e = .returned (.int .i64 g) ∧ w = w' := by
  have d7 : (g == h) = true := by simpa using hgh
  have d1 : decide (f < 0) = false := by simp; omega
  have d2 : (f == -2) = false := by simp; omega
  have d3 : (f == -1) = false := by simp; omega
  clear hgh
  go_enter Try.func49, Try.ntmps49
  go_wp2_with (go_at_call 59; refine (leafQ_calls f _ (by omega) (by omega)).mono ?_; rintro e w' ⟨rfl, rfl⟩; rw [d1])
  go_ret
  exact ⟨rfl, rfl⟩

theorem chooseP_memo (ns : List N39) (memo : Memo) (cc : Nat) (f g h r : Int) (S m mm : Nat) (v : Value) (full : Bool) (w : World) (hS : StAt 58 w S m v ns full) (hM : MapIs Try.prog 79 w mm cc (memF memo)) (hf : 0 ≤ f) (hgh : ¬ g = h) (hfo : okI f ∧ okI g ∧ okI h) (hf1 : f ≤ 100000) (hr : memo (kl3 f g h) = some r) :
    Calls Try.prog 49 #[.pointer (some ⟨S, 0, none⟩), .int .i64 f, .int .i64 g, .int .i64 h, .map (some mm)] w (ChooseEnd 58 w S m v mm ns full memo cc r) := by
  have d7 : (g == h) = false := by simpa using hgh
  have d1 : decide (f < 0) = false := by simp; omega
  have d2 : (f == -2) = false := by simp; omega
  have d3 : (f == -1) = false := by simp; omega
  have HS := Aside0.mk hS
  have HM := Aside0.mk hM
  have HFO := Aside0.mk hfo
  have HMV : Aside0 (memF memo (kl3 f g h) = some (.int .i64 r)) := ⟨by unfold memF; rw [hr]; rfl⟩
  clear hgh hS hM hfo hr
  go_enter Try.func49, Try.ntmps49
  go_wp2_with (first | (go_at_call 59; refine (leafQ_calls f _ (by omega) (by omega)).mono ?_; rintro e w' ⟨rfl, rfl⟩; rw [d1]) | (at_lookup; refine lookup_ok _ rfl _ _ 69 rfl 79 3 K79 Try.underlying69 _ (zero3 _) mm cc (memF memo) rfl (HM.out.alloc _) (.agg #[.int .i64 f, .int .i64 g, .int .i64 h]) (kl3 f g h) rfl (key79 HFO.out.1 HFO.out.2.1 HFO.out.2.2) ?_; rw [HMV.out]; simp only [Option.getD_some, Option.isSome_some]))
  go_ret
  exact ⟨rfl, v, HS.out.kept ((Fr.refl w (fun _ => False)).alloc _) (fun _ _ hk => hk), HM.out.alloc _, (Fr.refl _ _).alloc _, .inl rfl⟩

set_option maxRecDepth 100000 in
set_option maxHeartbeats 2000000 in
theorem chooseR_leaf (f g h : Int) (S mm : Nat) (w : World) (hf : f = -2 ∨ f = -1) :
    Calls Try.prog 50 #[.pointer (some ⟨S, 0, none⟩), .int .i64 f, .int .i64 g, .int .i64 h, .map (some mm)] w fun e w' => e = .returned (.int .i64 (if f = -2 then g else h)) ∧ w = w' := by
  rcases hf with rfl | rfl
  · rw [if_pos rfl]
    go_enter Try.func50, Try.ntmps50
    go_wp2
    go_ret
    exact ⟨rfl, rfl⟩
  · rw [if_neg (by decide)]
    by_cases hgh : g = h
    · have d7 : (g == h) = true := by simpa using hgh
      go_enter Try.func50, Try.ntmps50
      go_wp2
      go_ret
      exact ⟨by rw [hgh]; rfl, rfl⟩
    · have d7 : (g == h) = false := by simpa using hgh
      clear hgh
      go_enter Try.func50, Try.ntmps50
      go_wp2
      go_ret
      exact ⟨rfl, rfl⟩
set_option maxRecDepth 100000 in
set_option maxHeartbeats 2000000 in
theorem chooseR_same (f g h : Int) (S mm : Nat) (w : World) (hf : 0 ≤ f) (hf1 : f ≤ 100000) (hgh : g = h) :
    Calls Try.prog 50 #[.pointer (some ⟨S, 0, none⟩), .int .i64 f, .int .i64 g, .int .i64 h, .map (some mm)] w fun e w' => e = .returned (.int .i64 g) ∧ w = w' := by
  have d7 : (g == h) = true := by simpa using hgh
  have d1 : decide (f < 0) = false := by simp; omega
  have d2 : (f == -2) = false := by simp; omega
  have d3 : (f == -1) = false := by simp; omega
  clear hgh
  go_enter Try.func50, Try.ntmps50
  go_wp2
  go_ret
  exact ⟨rfl, rfl⟩

theorem chooseR_memo (ns : List N39) (memo : Memo) (cc : Nat) (f g h r : Int) (S m mm : Nat) (v : Value) (full : Bool) (w : World) (hS : StAt 67 w S m v ns full) (hM : MapIs Try.prog 79 w mm cc (memF memo)) (hf : 0 ≤ f) (hgh : ¬ g = h) (hfo : okI f ∧ okI g ∧ okI h) (hf1 : f ≤ 100000) (hr : memo (kl3 f g h) = some r) :
    Calls Try.prog 50 #[.pointer (some ⟨S, 0, none⟩), .int .i64 f, .int .i64 g, .int .i64 h, .map (some mm)] w (ChooseEnd 67 w S m v mm ns full memo cc r) := by
  have d7 : (g == h) = false := by simpa using hgh
  have d1 : decide (f < 0) = false := by simp; omega
  have d2 : (f == -2) = false := by simp; omega
  have d3 : (f == -1) = false := by simp; omega
  have HS := Aside0.mk hS
  have HM := Aside0.mk hM
  have HFO := Aside0.mk hfo
  have HMV : Aside0 (memF memo (kl3 f g h) = some (.int .i64 r)) := ⟨by unfold memF; rw [hr]; rfl⟩
  clear hgh hS hM hfo hr
  go_enter Try.func50, Try.ntmps50
  go_wp2_with (first | (at_lookup; refine lookup_ok _ rfl _ _ 69 rfl 79 3 K79 Try.underlying69 _ (zero3 _) mm cc (memF memo) rfl (HM.out.alloc _) (.agg #[.int .i64 f, .int .i64 g, .int .i64 h]) (kl3 f g h) rfl (key79 HFO.out.1 HFO.out.2.1 HFO.out.2.2) ?_; rw [HMV.out]; simp only [Option.getD_some, Option.isSome_some]))
  go_ret
  exact ⟨rfl, v, HS.out.kept ((Fr.refl w (fun _ => False)).alloc _) (fun _ _ hk => hk), HM.out.alloc _, (Fr.refl _ _).alloc _, .inl rfl⟩
end Go.Proofs.Ytihikenmknphkaa.Q

namespace Go.Proofs.Ytihikenmknphkaa.Q
open Go Go.RowKit Go.Maps Go.Proofs.YtihikenmknphkaaW.PrintWords Go.Proofs.YtihikenmknphkaaW.PrintLast Go.Proofs.YtihikenmknphkaaW.PrintMore Go.Proofs.Ytihikenmknphkaa.M
attribute [local go_sem] max2_int min2_int max_two min_two max_three min_three max_four min_four
set_option linter.unusedVariables false
set_option linter.unusedSimpArgs false

theorem min3_if (a b c : Int) : (if c < if b < a then b else a then c else if b < a then b else a) = min3 a b c := by
  unfold min3
  by_cases h1 : b < a
  · rw [if_pos h1]
    by_cases h2 : c < b
    · rw [if_pos h2]; omega
    · rw [if_neg h2]; omega
  · rw [if_neg h1]
    by_cases h2 : c < a
    · rw [if_pos h2]; omega
    · rw [if_neg h2]; omega
theorem MapIs.fr {P : Program} {k : TypeId} {w w' : World} {b n : Nat} {f : Lit → Option Value} {F : Nat → Prop} (h : MapIs P k w b n f) (hk : Fr w w' F) (hn : ¬ F b) : MapIs P k w' b n f := h.same (hk.blk b h.lt hn)
theorem StAt.box {T : Nat} {w : World} {S m : Nat} {v : Value} {ns : List N39} {full : Bool} (h : StAt T w S m v ns full) {g t : Nat} {cs : Array Value} (hb : w.heap[g]? = some (.cells cs t (0, 0))) (h1 : T ≠ t) (h2 : 39 ≠ t) : ¬ ownS S m v g := by
  rintro (e | e | e)
  · subst e
    have := h.blk.symm.trans hb
    injection this with this
    injection this with _ this
    exact h1 this
  · subst e; exact MapIs.no_cells h.ids hb
  · exact Kd.R_ne h.row hb h2 e.symm
theorem StAt.mm {T : Nat} {w : World} {S m : Nat} {v : Value} {ns : List N39} {full : Bool} (h : StAt T w S m v ns full) {k : TypeId} {mm n : Nat} {f : Lit → Option Value} (hm : MapIs Try.prog k w mm n f) (hne : mm ≠ m) : ¬ ownS S m v mm := by
  rintro (e | e | e)
  · exact MapIs.no_cells hm (by rw [e]; exact h.blk)
  · exact hne e
  · obtain ⟨inner, hown⟩ := Kd.R_own h.row
    exact MapIs.ne_own hm hown e.symm

set_option maxRecDepth 100000 in
set_option maxHeartbeats 4000000 in
theorem chooseP_goes (k : Nat) (ih : chooseCalls 58 49 k) (ns ns1 ns2 ns3 : List N39) (memo memo1 memo2 : Memo) (c c1 c2 : Nat) (f g h y n r : Int) (S m mm : Nat) (v : Value) (full : Bool) (w : World) (hw : WF ns) (hmo : MemOk ns memo) (vf : validN ns f = true) (vg : validN ns g = true) (vh : validN ns h = true)
    (hf : 0 ≤ f) (hgh : ¬ g = h) (hk : memo (kl3 f g h) = none)
    (hp : chooseF k ns memo c (cofN ns f (min3 (topN ns f) (topN ns g) (topN ns h))).1 (cofN ns g (min3 (topN ns f) (topN ns g) (topN ns h))).1 (cofN ns h (min3 (topN ns f) (topN ns g) (topN ns h))).1 = some (ns1, memo1, c1, y)) (ey : ¬ y = -1002)
    (hq : chooseF k ns1 memo1 c1 (cofN ns f (min3 (topN ns f) (topN ns g) (topN ns h))).2 (cofN ns g (min3 (topN ns f) (topN ns g) (topN ns h))).2 (cofN ns h (min3 (topN ns f) (topN ns g) (topN ns h))).2 = some (ns2, memo2, c2, n)) (en : ¬ n = -1002)
    (hs : nodeF ns2 (min3 (topN ns f) (topN ns g) (topN ns h)) y n = some (ns3, r)) (er : ¬ r = -1002) (ec : c2 < 1000000000)
    (hS : StAt 58 w S m v ns full) (hM : MapIs Try.prog 79 w mm c (memF memo)) (hne : mm ≠ m) :
    Calls Try.prog 49 #[.pointer (some ⟨S, 0, none⟩), .int .i64 f, .int .i64 g, .int .i64 h, .map (some mm)] w (ChooseEnd 58 w S m v mm ns3 full (upd memo2 (kl3 f g h) r) (c2 + 1) r) := by
  have hl := hS.len
  have lf := valid_lt vf
  have lg := valid_lt vg
  have lh := valid_lt vh
  have HFO : Aside0 (okI f ∧ okI g ∧ okI h) := ⟨okI_of (by omega) (by omega), okI_of (by omega) (by omega), okI_of (by omega) (by omega)⟩
  have d7 : (g == h) = false := by simpa using hgh
  have d1 : decide (f < 0) = false := by simp; omega
  have d2 : (f == -2) = false := by simp; omega
  have d3 : (f == -1) = false := by simp; omega
  have d8 : (y == -1002) = false := by simpa using ey
  have d9 : (n == -1002) = false := by simpa using en
  have d8' : (y != -1002) = true := by simpa using ey
  have d9' : (n != -1002) = true := by simpa using en
  have tf1 : topN ns f ≤ 1000 := by
    unfold topN
    rw [if_neg (by omega)]
    obtain ⟨hi, e⟩ := rd_int39 (by omega) lf.2
    rw [e]
    exact (hw.nd _ hi).1.2
  have tr1 := hw.top_range lf.2
  have tr2 := hw.top_range lg.2
  have tr3 := hw.top_range lh.2
  have hT := Aside0.mk (min3_if (topN ns f) (topN ns g) (topN ns h))
  have hTf : min3 (topN ns f) (topN ns g) (topN ns h) ≤ topN ns f := by unfold min3; omega
  have hTg : min3 (topN ns f) (topN ns g) (topN ns h) ≤ topN ns g := by unfold min3; omega
  have hTh : min3 (topN ns f) (topN ns g) (topN ns h) ≤ topN ns h := by unfold min3; omega
  have hT0 : 0 ≤ min3 (topN ns f) (topN ns g) (topN ns h) := by unfold min3; omega
  have kf := Aside0.mk (fun (W : World) (h : StAt 58 W S m v ns full) => topP_calls S m v ns full f W h lf.2)
  have kg := Aside0.mk (fun (W : World) (h : StAt 58 W S m v ns full) => topP_calls S m v ns full g W h lg.2)
  have kh := Aside0.mk (fun (W : World) (h' : StAt 58 W S m v ns full) => topP_calls S m v ns full h W h' lh.2)
  generalize hTT : min3 (topN ns f) (topN ns g) (topN ns h) = T at hp hq hs hTf hTg hTh hT0 hT
  clear hTT
  obtain ⟨f1, f2, _, _⟩ := hw.cof vf hTf (by omega)
  obtain ⟨g1, g2, _, _⟩ := hw.cof vg hTg (by omega)
  obtain ⟨h1, h2, _, _⟩ := hw.cof vh hTh (by omega)
  have HT1 : T < 1001 := by omega
  obtain ⟨w1', ⟨ms1, e1⟩, m1, v1'⟩ := choose_ok k hw hmo f1 g1 h1 hp
  have f2' := valid_app (ms := ms1) f2
  have g2' := valid_app (ms := ms1) g2
  have h2' := valid_app (ms := ms1) h2
  rw [← e1] at f2' g2' h2'
  have cf := Aside0.mk (fun (W : World) (h : StAt 58 W S m v ns full) => cofP_calls S m v ns full f T W h lf.2 HT1)
  have cg := Aside0.mk (fun (W : World) (h : StAt 58 W S m v ns full) => cofP_calls S m v ns full g T W h lg.2 HT1)
  have ch := Aside0.mk (fun (W : World) (h' : StAt 58 W S m v ns full) => cofP_calls S m v ns full h T W h' lh.2 HT1)
  have I1 := Aside0.mk (fun (W : World) (V : Value) (a : StAt 58 W S m V ns full) (b : MapIs Try.prog 79 W mm c (memF memo)) => ih ns ns1 memo memo1 c c1 _ _ _ y S m mm V full W hw hmo f1 g1 h1 hp a b hne)
  have I2 := Aside0.mk (fun (W : World) (V : Value) (a : StAt 58 W S m V ns1 full) (b : MapIs Try.prog 79 W mm c1 (memF memo1)) => ih ns1 ns2 memo1 memo2 c1 c2 _ _ _ n S m mm V full W w1' m1 f2' g2' h2' hq a b hne)
  have I3 := Aside0.mk (fun (W : World) (V : Value) (a : StAt 58 W S m V ns2 full) => nodeP_calls S m V ns2 ns3 full T y n r W a hs)
  have HS := Aside0.mk hS
  have HM := Aside0.mk hM
  have HMV : Aside0 (memF memo (kl3 f g h) = none) := ⟨by unfold memF; rw [hk]; rfl⟩
  have HLT : Aside0 (∀ j, ownS S m v j → j < w.heap.size) := ⟨fun j hj => hS.lt hj⟩
  have HML : Aside0 (mm < w.heap.size) := ⟨hM.lt⟩
  generalize topN ns f = tf at kf hT
  generalize topN ns g = tg at kg hT
  generalize topN ns h = th at kh hT
  generalize cofN ns f T = cof1 at cf I1 I2
  generalize cofN ns g T = cof2 at cg I1 I2
  generalize cofN ns h T = cof3 at ch I1 I2
  obtain ⟨fy, fn⟩ := cof1
  obtain ⟨gy, gn⟩ := cof2
  obtain ⟨hy, hn⟩ := cof3
  clear hw hmo vf vg vh hgh hk hp ey hq en hs er hS hM f1 f2 g1 g2 h1 h2 e1 m1 v1' f2' g2' h2' w1' ih tf1 tr1 tr2 tr3 hTf hTg hTh
  go_enter Try.func49, Try.ntmps49
  go_upto_region 12 with (first | (go_at_call 59; refine (leafQ_calls f _ (by omega) (by omega)).mono ?_; rintro e w' ⟨rfl, rfl⟩; rw [d1]) | (at_lookup; refine lookup_ok _ rfl _ _ 69 rfl 79 3 K79 Try.underlying69 _ (zero3 _) mm c (memF memo) rfl (HM.out.alloc _) (.agg #[.int .i64 f, .int .i64 g, .int .i64 h]) (kl3 f g h) rfl (key79 HFO.out.1 HFO.out.2.1 HFO.out.2.2) ?_; rw [HMV.out]; simp only [Option.getD_none, Option.isSome_none]))
  have HBX := Aside0.mk (blk_new w (.cells #[.int .i64 f, .int .i64 g, .int .i64 h] 79))
  have HFa : Aside0 (Fr w (w.alloc (.cells #[.int .i64 f, .int .i64 g, .int .i64 h] 79)) (fun k => ownS S m v k ∨ k = mm)) := ⟨(Fr.refl _ _).alloc _⟩
  have HSa : Aside0 (StAt 58 (w.alloc (.cells #[.int .i64 f, .int .i64 g, .int .i64 h] 79)) S m v ns full) := ⟨HS.out.kept ((Fr.refl w (fun _ => False)).alloc _) (fun _ _ h => h)⟩
  have HMa : Aside0 (MapIs Try.prog 79 (w.alloc (.cells #[.int .i64 f, .int .i64 g, .int .i64 h] 79)) mm c (memF memo)) := ⟨HM.out.alloc _⟩
  generalize w.alloc (.cells #[.int .i64 f, .int .i64 g, .int .i64 h] 79) = wa at HBX HFa HSa HMa ⊢
  go_upto_region 13 with (first | (go_at_call 45; (with_reducible refine (kf.out _ HSa.out).mono ?_); rintro e w' ⟨rfl, rfl⟩) | (go_at_call 45; (with_reducible refine (kg.out _ HSa.out).mono ?_); rintro e w' ⟨rfl, rfl⟩) | (go_at_call 45; (with_reducible refine (kh.out _ HSa.out).mono ?_); rintro e w' ⟨rfl, rfl⟩))
  rw [hT.out]
  go_upto_region 16 with (first | (go_at_call 60; (with_reducible refine (cf.out _ HSa.out).mono ?_); rintro e w1 ⟨rfl, hb⟩; have HB1 := Aside0.mk hb; have HS1 := Aside0.mk (HSa.out.kept (Fr.of_below hb (fun _ => False)) (fun _ _ h => h)); clear hb) | (go_at_call 60; (with_reducible refine (cg.out _ HS1.out).mono ?_); rintro e w2 ⟨rfl, hb⟩; have HB2 := Aside0.mk hb; have HS2 := Aside0.mk (HS1.out.kept (Fr.of_below hb (fun _ => False)) (fun _ _ h => h)); clear hb) | (go_at_call 60; (with_reducible refine (ch.out _ HS2.out).mono ?_); rintro e w3 ⟨rfl, hb⟩; have HB3 := Aside0.mk hb; have HS3 := Aside0.mk (HS2.out.kept (Fr.of_below hb (fun _ => False)) (fun _ _ h => h)); clear hb))
  have HF3 : Aside0 (Fr w w3 (fun k => ownS S m v k ∨ k = mm)) := ⟨((HFa.out.then_below HB1.out).then_below HB2.out).then_below HB3.out⟩
  have HFA3 : Aside0 (Fr wa w3 (fun _ => False)) := ⟨(((Fr.refl wa _).then_below HB1.out).then_below HB2.out).then_below HB3.out⟩
  have HM3 : Aside0 (MapIs Try.prog 79 w3 mm c (memF memo)) := ⟨MapIs.fr HMa.out HFA3.out (fun h => h)⟩
  have HB3x : Aside0 (w3.heap[w.heap.size]? = some (.cells #[.int .i64 f, .int .i64 g, .int .i64 h] 79 (0, 0))) := ⟨HFA3.out.heap HBX.out (fun h => h)⟩
  clear HB1 HB2 HB3 HFa HFA3 HMa HBX HSa HS1 HS2 cf cg ch kf kg kh HM HMV
  go_upto_region 19 with (go_at_call 49; (with_reducible refine (I1.out _ _ HS3.out HM3.out).mono ?_); rintro e w4 ⟨rfl, v4, hs4, hm4, hf4, ha4⟩; have HS4 := Aside0.mk hs4; have HM4 := Aside0.mk hm4; have HF4 := Aside0.mk hf4; have HA4 := Aside0.mk ha4; clear hs4 hm4 hf4 ha4)
  have hA4 : v4.ownBlock = v.ownBlock ∨ ∃ b, v4.ownBlock = some b ∧ w.heap.size ≤ b := hat_trans (.inl rfl) (HA4.out) HF3.out.size
  have HA4w := Aside0.mk hA4
  have HF4w : Aside0 (Fr w w4 (fun k => ownS S m v k ∨ k = mm)) := ⟨HF3.out.trans HF4.out (fun j hj => .inl hj)⟩
  have HB4x : Aside0 (w4.heap[w.heap.size]? = some (.cells #[.int .i64 f, .int .i64 g, .int .i64 h] 79 (0, 0))) := ⟨HF4.out.heap HB3x.out (fun hj => hj.elim (HS3.out.box HB3x.out (by decide) (by decide)) (fun e => by have := HML.out; omega))⟩
  clear hA4 HA4 HF4 HF3 HB3x HS3 HM3 I1
  go_upto_region 22 with (go_at_call 49; (with_reducible refine (I2.out _ _ HS4.out HM4.out).mono ?_); rintro e w5 ⟨rfl, v5, hs5, hm5, hf5, ha5⟩; have HS5 := Aside0.mk hs5; have HM5 := Aside0.mk hm5; have HF5 := Aside0.mk hf5; have HA5 := Aside0.mk ha5; clear hs5 hm5 hf5 ha5)
  have HA5w := Aside0.mk (hat_trans HA4w.out HA5.out HF4w.out.size)
  have HF5w : Aside0 (Fr w w5 (fun k => ownS S m v k ∨ k = mm)) := ⟨HF4w.out.trans HF5.out (fun j hj => by
    rcases hj with hj | hj
    · rcases own_step HA4w.out hj with h | h
      · exact .inl (.inl h)
      · exact .inr h
    · exact .inl (.inr hj))⟩
  have HB5x : Aside0 (w5.heap[w.heap.size]? = some (.cells #[.int .i64 f, .int .i64 g, .int .i64 h] 79 (0, 0))) := ⟨HF5.out.heap HB4x.out (fun hj => hj.elim (HS4.out.box HB4x.out (by decide) (by decide)) (fun e => by have := HML.out; omega))⟩
  clear HF4w HF5 HA5 HA4w HB4x HS4 HM4 I2
  go_upto_region 23 with (go_at_call 18; (with_reducible refine (I3.out _ _ HS5.out).mono ?_); rintro e w6 ⟨rfl, v6, hs6, hf6, ha6⟩; have HS6 := Aside0.mk hs6; have HF6 := Aside0.mk hf6; have HA6 := Aside0.mk ha6; clear hs6 hf6 ha6)
  have HA6w := Aside0.mk (hat_trans HA5w.out HA6.out HF5w.out.size)
  have HM6 : Aside0 (MapIs Try.prog 79 w6 mm c2 (memF memo2)) := ⟨MapIs.fr HM5.out HF6.out (HS5.out.mm HM5.out hne)⟩
  have HB6x : Aside0 (w6.heap[w.heap.size]? = some (.cells #[.int .i64 f, .int .i64 g, .int .i64 h] 79 (0, 0))) := ⟨HF6.out.heap HB5x.out (HS5.out.box HB5x.out (by decide) (by decide))⟩
  have HF6w : Aside0 (Fr w w6 (fun k => ownS S m v k ∨ k = mm)) := ⟨HF5w.out.trans HF6.out (fun j hj => by
    rcases own_step HA5w.out hj with h | h
    · exact .inl (.inl h)
    · exact .inr h)⟩
  clear HF5w HF6 HA6 HA5w HB5x HS5 HM5 I3
  have q0 : w6.cell? ⟨w.heap.size, 0, none⟩ = some (.int .i64 f) := (blk_cell HB6x.out 0).trans rfl
  have q1 : w6.cell? ⟨w.heap.size, 1, none⟩ = some (.int .i64 g) := (blk_cell HB6x.out 1).trans rfl
  have q2 : w6.cell? ⟨w.heap.size, 2, none⟩ = some (.int .i64 h) := (blk_cell HB6x.out 2).trans rfl
  go_wp2_with (at_mapUpdate; refine store_one _ rfl _ _ _ 69 (Or.inl rfl) 79 3 K79 Try.underlying69 mm c2 (memF memo2) rfl HM6.out (by unfold maxLen; omega) (.agg #[.int .i64 f, .int .i64 g, .int .i64 h]) (.int .i64 r) (kl3 f g h) rfl rfl (key79 HFO.out.1 HFO.out.2.1 HFO.out.2.2) ?_; intro w7 hm7 hg7 hz7; rw [memF_upd] at hm7; have HM7 := Aside0.mk hm7; have HG7 := Aside0.mk hg7; clear hm7 hg7 hz7)
  go_ret
  refine ⟨rfl, v6, HS6.out.kept (Fr.of_grown HG7.out) (fun j hj e => HS6.out.mm HM6.out hne (by injection e with e; rw [e]; exact hj)), HM7.out, HF6w.out.trans (Fr.of_grown HG7.out) (fun j hj => .inl (.inr (by injection hj with hj; exact hj.symm))), HA6w.out⟩
end Go.Proofs.Ytihikenmknphkaa.Q

namespace Go.Proofs.Ytihikenmknphkaa.Q
open Go Go.RowKit Go.Maps Go.Proofs.YtihikenmknphkaaW.PrintWords Go.Proofs.YtihikenmknphkaaW.PrintLast Go.Proofs.YtihikenmknphkaaW.PrintMore Go.Proofs.Ytihikenmknphkaa.M
attribute [local go_sem] max2_int min2_int max_two min_two max_three min_three max_four min_four
set_option linter.unusedVariables false
set_option linter.unusedSimpArgs false

set_option maxRecDepth 100000 in
set_option maxHeartbeats 4000000 in
theorem chooseR_goes (k : Nat) (ih : chooseCalls 67 50 k) (ns ns1 ns2 ns3 : List N39) (memo memo1 memo2 : Memo) (c c1 c2 : Nat) (f g h y n r : Int) (S m mm : Nat) (v : Value) (full : Bool) (w : World) (hw : WF ns) (hmo : MemOk ns memo) (vf : validN ns f = true) (vg : validN ns g = true) (vh : validN ns h = true)
    (hf : 0 ≤ f) (hgh : ¬ g = h) (hk : memo (kl3 f g h) = none)
    (hp : chooseF k ns memo c (cofN ns f (min3 (topN ns f) (topN ns g) (topN ns h))).1 (cofN ns g (min3 (topN ns f) (topN ns g) (topN ns h))).1 (cofN ns h (min3 (topN ns f) (topN ns g) (topN ns h))).1 = some (ns1, memo1, c1, y)) (ey : ¬ y = -1002)
    (hq : chooseF k ns1 memo1 c1 (cofN ns f (min3 (topN ns f) (topN ns g) (topN ns h))).2 (cofN ns g (min3 (topN ns f) (topN ns g) (topN ns h))).2 (cofN ns h (min3 (topN ns f) (topN ns g) (topN ns h))).2 = some (ns2, memo2, c2, n)) (en : ¬ n = -1002)
    (hs : nodeF ns2 (min3 (topN ns f) (topN ns g) (topN ns h)) y n = some (ns3, r)) (er : ¬ r = -1002) (ec : c2 < 1000000000)
    (hS : StAt 67 w S m v ns full) (hM : MapIs Try.prog 79 w mm c (memF memo)) (hne : mm ≠ m) :
    Calls Try.prog 50 #[.pointer (some ⟨S, 0, none⟩), .int .i64 f, .int .i64 g, .int .i64 h, .map (some mm)] w (ChooseEnd 67 w S m v mm ns3 full (upd memo2 (kl3 f g h) r) (c2 + 1) r) := by
  have hl := hS.len
  have lf := valid_lt vf
  have lg := valid_lt vg
  have lh := valid_lt vh
  have HFO : Aside0 (okI f ∧ okI g ∧ okI h) := ⟨okI_of (by omega) (by omega), okI_of (by omega) (by omega), okI_of (by omega) (by omega)⟩
  have d7 : (g == h) = false := by simpa using hgh
  have d1 : decide (f < 0) = false := by simp; omega
  have d2 : (f == -2) = false := by simp; omega
  have d3 : (f == -1) = false := by simp; omega
  have d8 : (y == -1002) = false := by simpa using ey
  have d9 : (n == -1002) = false := by simpa using en
  have d8' : (y != -1002) = true := by simpa using ey
  have d9' : (n != -1002) = true := by simpa using en
  have tf1 : topN ns f ≤ 1000 := by
    unfold topN
    rw [if_neg (by omega)]
    obtain ⟨hi, e⟩ := rd_int39 (by omega) lf.2
    rw [e]
    exact (hw.nd _ hi).1.2
  have tr1 := hw.top_range lf.2
  have tr2 := hw.top_range lg.2
  have tr3 := hw.top_range lh.2
  have hT := Aside0.mk (min3_if (topN ns f) (topN ns g) (topN ns h))
  have hTf : min3 (topN ns f) (topN ns g) (topN ns h) ≤ topN ns f := by unfold min3; omega
  have hTg : min3 (topN ns f) (topN ns g) (topN ns h) ≤ topN ns g := by unfold min3; omega
  have hTh : min3 (topN ns f) (topN ns g) (topN ns h) ≤ topN ns h := by unfold min3; omega
  have hT0 : 0 ≤ min3 (topN ns f) (topN ns g) (topN ns h) := by unfold min3; omega
  have kf := Aside0.mk (fun (W : World) (h : StAt 67 W S m v ns full) => topR_calls S m v ns full f W h lf.2)
  have kg := Aside0.mk (fun (W : World) (h : StAt 67 W S m v ns full) => topR_calls S m v ns full g W h lg.2)
  have kh := Aside0.mk (fun (W : World) (h' : StAt 67 W S m v ns full) => topR_calls S m v ns full h W h' lh.2)
  generalize hTT : min3 (topN ns f) (topN ns g) (topN ns h) = T at hp hq hs hTf hTg hTh hT0 hT
  clear hTT
  obtain ⟨f1, f2, _, _⟩ := hw.cof vf hTf (by omega)
  obtain ⟨g1, g2, _, _⟩ := hw.cof vg hTg (by omega)
  obtain ⟨h1, h2, _, _⟩ := hw.cof vh hTh (by omega)
  have HT1 : T < 1001 := by omega
  obtain ⟨w1', ⟨ms1, e1⟩, m1, v1'⟩ := choose_ok k hw hmo f1 g1 h1 hp
  have f2' := valid_app (ms := ms1) f2
  have g2' := valid_app (ms := ms1) g2
  have h2' := valid_app (ms := ms1) h2
  rw [← e1] at f2' g2' h2'
  have cf := Aside0.mk (fun (W : World) (h : StAt 67 W S m v ns full) => cofR_calls S m v ns full f T W h lf.2 HT1)
  have cg := Aside0.mk (fun (W : World) (h : StAt 67 W S m v ns full) => cofR_calls S m v ns full g T W h lg.2 HT1)
  have ch := Aside0.mk (fun (W : World) (h' : StAt 67 W S m v ns full) => cofR_calls S m v ns full h T W h' lh.2 HT1)
  have I1 := Aside0.mk (fun (W : World) (V : Value) (a : StAt 67 W S m V ns full) (b : MapIs Try.prog 79 W mm c (memF memo)) => ih ns ns1 memo memo1 c c1 _ _ _ y S m mm V full W hw hmo f1 g1 h1 hp a b hne)
  have I2 := Aside0.mk (fun (W : World) (V : Value) (a : StAt 67 W S m V ns1 full) (b : MapIs Try.prog 79 W mm c1 (memF memo1)) => ih ns1 ns2 memo1 memo2 c1 c2 _ _ _ n S m mm V full W w1' m1 f2' g2' h2' hq a b hne)
  have I3 := Aside0.mk (fun (W : World) (V : Value) (a : StAt 67 W S m V ns2 full) => nodeR_calls S m V ns2 ns3 full T y n r W a hs)
  have HS := Aside0.mk hS
  have HM := Aside0.mk hM
  have HMV : Aside0 (memF memo (kl3 f g h) = none) := ⟨by unfold memF; rw [hk]; rfl⟩
  have HLT : Aside0 (∀ j, ownS S m v j → j < w.heap.size) := ⟨fun j hj => hS.lt hj⟩
  have HML : Aside0 (mm < w.heap.size) := ⟨hM.lt⟩
  generalize topN ns f = tf at kf hT
  generalize topN ns g = tg at kg hT
  generalize topN ns h = th at kh hT
  generalize cofN ns f T = cof1 at cf I1 I2
  generalize cofN ns g T = cof2 at cg I1 I2
  generalize cofN ns h T = cof3 at ch I1 I2
  obtain ⟨fy, fn⟩ := cof1
  obtain ⟨gy, gn⟩ := cof2
  obtain ⟨hy, hn⟩ := cof3
  clear hw hmo vf vg vh hgh hk hp ey hq en hs er hS hM f1 f2 g1 g2 h1 h2 e1 m1 v1' f2' g2' h2' w1' ih tf1 tr1 tr2 tr3 hTf hTg hTh
  go_enter Try.func50, Try.ntmps50
  go_upto_region 9 with (first | (at_lookup; refine lookup_ok _ rfl _ _ 69 rfl 79 3 K79 Try.underlying69 _ (zero3 _) mm c (memF memo) rfl (HM.out.alloc _) (.agg #[.int .i64 f, .int .i64 g, .int .i64 h]) (kl3 f g h) rfl (key79 HFO.out.1 HFO.out.2.1 HFO.out.2.2) ?_; rw [HMV.out]; simp only [Option.getD_none, Option.isSome_none]))
  have HBX := Aside0.mk (blk_new w (.cells #[.int .i64 f, .int .i64 g, .int .i64 h] 79))
  have HFa : Aside0 (Fr w (w.alloc (.cells #[.int .i64 f, .int .i64 g, .int .i64 h] 79)) (fun k => ownS S m v k ∨ k = mm)) := ⟨(Fr.refl _ _).alloc _⟩
  have HSa : Aside0 (StAt 67 (w.alloc (.cells #[.int .i64 f, .int .i64 g, .int .i64 h] 79)) S m v ns full) := ⟨HS.out.kept ((Fr.refl w (fun _ => False)).alloc _) (fun _ _ h => h)⟩
  have HMa : Aside0 (MapIs Try.prog 79 (w.alloc (.cells #[.int .i64 f, .int .i64 g, .int .i64 h] 79)) mm c (memF memo)) := ⟨HM.out.alloc _⟩
  generalize w.alloc (.cells #[.int .i64 f, .int .i64 g, .int .i64 h] 79) = wa at HBX HFa HSa HMa ⊢
  go_upto_region 10 with (first | (go_at_call 47; (with_reducible refine (kf.out _ HSa.out).mono ?_); rintro e w' ⟨rfl, rfl⟩) | (go_at_call 47; (with_reducible refine (kg.out _ HSa.out).mono ?_); rintro e w' ⟨rfl, rfl⟩) | (go_at_call 47; (with_reducible refine (kh.out _ HSa.out).mono ?_); rintro e w' ⟨rfl, rfl⟩))
  rw [hT.out]
  go_upto_region 13 with (first | (go_at_call 61; (with_reducible refine (cf.out _ HSa.out).mono ?_); rintro e w1 ⟨rfl, hb⟩; have HB1 := Aside0.mk hb; have HS1 := Aside0.mk (HSa.out.kept (Fr.of_below hb (fun _ => False)) (fun _ _ h => h)); clear hb) | (go_at_call 61; (with_reducible refine (cg.out _ HS1.out).mono ?_); rintro e w2 ⟨rfl, hb⟩; have HB2 := Aside0.mk hb; have HS2 := Aside0.mk (HS1.out.kept (Fr.of_below hb (fun _ => False)) (fun _ _ h => h)); clear hb) | (go_at_call 61; (with_reducible refine (ch.out _ HS2.out).mono ?_); rintro e w3 ⟨rfl, hb⟩; have HB3 := Aside0.mk hb; have HS3 := Aside0.mk (HS2.out.kept (Fr.of_below hb (fun _ => False)) (fun _ _ h => h)); clear hb))
  have HF3 : Aside0 (Fr w w3 (fun k => ownS S m v k ∨ k = mm)) := ⟨((HFa.out.then_below HB1.out).then_below HB2.out).then_below HB3.out⟩
  have HFA3 : Aside0 (Fr wa w3 (fun _ => False)) := ⟨(((Fr.refl wa _).then_below HB1.out).then_below HB2.out).then_below HB3.out⟩
  have HM3 : Aside0 (MapIs Try.prog 79 w3 mm c (memF memo)) := ⟨MapIs.fr HMa.out HFA3.out (fun h => h)⟩
  have HB3x : Aside0 (w3.heap[w.heap.size]? = some (.cells #[.int .i64 f, .int .i64 g, .int .i64 h] 79 (0, 0))) := ⟨HFA3.out.heap HBX.out (fun h => h)⟩
  clear HB1 HB2 HB3 HFa HFA3 HMa HBX HSa HS1 HS2 cf cg ch kf kg kh HM HMV
  go_upto_region 14 with (go_at_call 50; (with_reducible refine (I1.out _ _ HS3.out HM3.out).mono ?_); rintro e w4 ⟨rfl, v4, hs4, hm4, hf4, ha4⟩; have HS4 := Aside0.mk hs4; have HM4 := Aside0.mk hm4; have HF4 := Aside0.mk hf4; have HA4 := Aside0.mk ha4; clear hs4 hm4 hf4 ha4)
  have hA4 : v4.ownBlock = v.ownBlock ∨ ∃ b, v4.ownBlock = some b ∧ w.heap.size ≤ b := hat_trans (.inl rfl) (HA4.out) HF3.out.size
  have HA4w := Aside0.mk hA4
  have HF4w : Aside0 (Fr w w4 (fun k => ownS S m v k ∨ k = mm)) := ⟨HF3.out.trans HF4.out (fun j hj => .inl hj)⟩
  have HB4x : Aside0 (w4.heap[w.heap.size]? = some (.cells #[.int .i64 f, .int .i64 g, .int .i64 h] 79 (0, 0))) := ⟨HF4.out.heap HB3x.out (fun hj => hj.elim (HS3.out.box HB3x.out (by decide) (by decide)) (fun e => by have := HML.out; omega))⟩
  clear hA4 HA4 HF4 HF3 HB3x HS3 HM3 I1
  go_upto_region 17 with (go_at_call 50; (with_reducible refine (I2.out _ _ HS4.out HM4.out).mono ?_); rintro e w5 ⟨rfl, v5, hs5, hm5, hf5, ha5⟩; have HS5 := Aside0.mk hs5; have HM5 := Aside0.mk hm5; have HF5 := Aside0.mk hf5; have HA5 := Aside0.mk ha5; clear hs5 hm5 hf5 ha5)
  have HA5w := Aside0.mk (hat_trans HA4w.out HA5.out HF4w.out.size)
  have HF5w : Aside0 (Fr w w5 (fun k => ownS S m v k ∨ k = mm)) := ⟨HF4w.out.trans HF5.out (fun j hj => by
    rcases hj with hj | hj
    · rcases own_step HA4w.out hj with h | h
      · exact .inl (.inl h)
      · exact .inr h
    · exact .inl (.inr hj))⟩
  have HB5x : Aside0 (w5.heap[w.heap.size]? = some (.cells #[.int .i64 f, .int .i64 g, .int .i64 h] 79 (0, 0))) := ⟨HF5.out.heap HB4x.out (fun hj => hj.elim (HS4.out.box HB4x.out (by decide) (by decide)) (fun e => by have := HML.out; omega))⟩
  clear HF4w HF5 HA5 HA4w HB4x HS4 HM4 I2
  go_upto_region 18 with (go_at_call 27; (with_reducible refine (I3.out _ _ HS5.out).mono ?_); rintro e w6 ⟨rfl, v6, hs6, hf6, ha6⟩; have HS6 := Aside0.mk hs6; have HF6 := Aside0.mk hf6; have HA6 := Aside0.mk ha6; clear hs6 hf6 ha6)
  have HA6w := Aside0.mk (hat_trans HA5w.out HA6.out HF5w.out.size)
  have HM6 : Aside0 (MapIs Try.prog 79 w6 mm c2 (memF memo2)) := ⟨MapIs.fr HM5.out HF6.out (HS5.out.mm HM5.out hne)⟩
  have HB6x : Aside0 (w6.heap[w.heap.size]? = some (.cells #[.int .i64 f, .int .i64 g, .int .i64 h] 79 (0, 0))) := ⟨HF6.out.heap HB5x.out (HS5.out.box HB5x.out (by decide) (by decide))⟩
  have HF6w : Aside0 (Fr w w6 (fun k => ownS S m v k ∨ k = mm)) := ⟨HF5w.out.trans HF6.out (fun j hj => by
    rcases own_step HA5w.out hj with h | h
    · exact .inl (.inl h)
    · exact .inr h)⟩
  clear HF5w HF6 HA6 HA5w HB5x HS5 HM5 I3
  have q0 : w6.cell? ⟨w.heap.size, 0, none⟩ = some (.int .i64 f) := (blk_cell HB6x.out 0).trans rfl
  have q1 : w6.cell? ⟨w.heap.size, 1, none⟩ = some (.int .i64 g) := (blk_cell HB6x.out 1).trans rfl
  have q2 : w6.cell? ⟨w.heap.size, 2, none⟩ = some (.int .i64 h) := (blk_cell HB6x.out 2).trans rfl
  go_wp2_with (at_mapUpdate; refine store_one _ rfl _ _ _ 69 (Or.inl rfl) 79 3 K79 Try.underlying69 mm c2 (memF memo2) rfl HM6.out (by unfold maxLen; omega) (.agg #[.int .i64 f, .int .i64 g, .int .i64 h]) (.int .i64 r) (kl3 f g h) rfl rfl (key79 HFO.out.1 HFO.out.2.1 HFO.out.2.2) ?_; intro w7 hm7 hg7 hz7; rw [memF_upd] at hm7; have HM7 := Aside0.mk hm7; have HG7 := Aside0.mk hg7; clear hm7 hg7 hz7)
  go_ret
  refine ⟨rfl, v6, HS6.out.kept (Fr.of_grown HG7.out) (fun j hj e => HS6.out.mm HM6.out hne (by injection e with e; rw [e]; exact hj)), HM7.out, HF6w.out.trans (Fr.of_grown HG7.out) (fun j hj => .inl (.inr (by injection hj with hj; exact hj.symm))), HA6w.out⟩

theorem chooseEnd_now {T : Nat} {w : World} {S m : Nat} {v : Value} {mm : Nat} {ns : List N39} {full : Bool} {memo : Memo} {c : Nat} {r : Int} (hS : StAt T w S m v ns full) (hM : MapIs Try.prog 79 w mm c (memF memo)) {e : Ending} (he : e = .returned (.int .i64 r)) : ChooseEnd T w S m v mm ns full memo c r e w := ⟨he, v, hS, hM, Fr.refl _ _, .inl rfl⟩
theorem chooseF_split {k : Nat} {ns ns' : List N39} {memo memo' : Memo} {c c' : Nat} {f g h r : Int} (hc : chooseF (k + 1) ns memo c f g h = some (ns', memo', c', r)) :
    ((f = -2 ∨ f = -1) ∧ ns' = ns ∧ memo' = memo ∧ c' = c ∧ r = (if f = -2 then g else h)) ∨ (0 ≤ f ∧ g = h ∧ ns' = ns ∧ memo' = memo ∧ c' = c ∧ r = g) ∨ (0 ≤ f ∧ ¬ g = h ∧ memo (kl3 f g h) = some r ∧ ns' = ns ∧ memo' = memo ∧ c' = c) ∨
    (0 ≤ f ∧ ¬ g = h ∧ memo (kl3 f g h) = none ∧ ∃ ns1 memo1 c1 y ns2 memo2 c2 n, chooseF k ns memo c (cofN ns f (min3 (topN ns f) (topN ns g) (topN ns h))).1 (cofN ns g (min3 (topN ns f) (topN ns g) (topN ns h))).1 (cofN ns h (min3 (topN ns f) (topN ns g) (topN ns h))).1 = some (ns1, memo1, c1, y) ∧ ¬ y = -1002 ∧
      chooseF k ns1 memo1 c1 (cofN ns f (min3 (topN ns f) (topN ns g) (topN ns h))).2 (cofN ns g (min3 (topN ns f) (topN ns g) (topN ns h))).2 (cofN ns h (min3 (topN ns f) (topN ns g) (topN ns h))).2 = some (ns2, memo2, c2, n) ∧ ¬ n = -1002 ∧ nodeF ns2 (min3 (topN ns f) (topN ns g) (topN ns h)) y n = some (ns', r) ∧ ¬ r = -1002 ∧ c2 < 1000000000 ∧ memo' = upd memo2 (kl3 f g h) r ∧ c' = c2 + 1) := by
  unfold chooseF at hc
  by_cases e1 : f = -2
  · rw [if_pos e1] at hc
    simp at hc
    obtain ⟨rfl, rfl, rfl, rfl⟩ := hc
    exact .inl ⟨.inl e1, rfl, rfl, rfl, by rw [if_pos e1]⟩
  rw [if_neg e1] at hc
  by_cases e2 : f = -1
  · rw [if_pos e2] at hc
    simp at hc
    obtain ⟨rfl, rfl, rfl, rfl⟩ := hc
    exact .inl ⟨.inr e2, rfl, rfl, rfl, by rw [if_neg e1]⟩
  rw [if_neg e2] at hc
  by_cases e3 : f < 0
  · rw [if_pos e3] at hc; cases hc
  rw [if_neg e3] at hc
  have h0 : 0 ≤ f := by omega
  by_cases e4 : g = h
  · rw [if_pos e4] at hc
    simp at hc
    obtain ⟨rfl, rfl, rfl, rfl⟩ := hc
    exact .inr (.inl ⟨h0, e4, rfl, rfl, rfl, rfl⟩)
  rw [if_neg e4] at hc
  cases hk : memo (kl3 f g h) with
  | some r0 =>
    rw [hk] at hc
    simp at hc
    obtain ⟨rfl, rfl, rfl, rfl⟩ := hc
    exact .inr (.inr (.inl ⟨h0, e4, rfl, rfl, rfl, rfl⟩))
  | none =>
    rw [hk] at hc
    simp only at hc
    obtain ⟨⟨ns1, memo1, c1, y⟩, hp, hc⟩ := Option.bind_eq_some_iff.1 hc
    simp only at hc
    by_cases ey : y = -1002
    · rw [if_pos ey] at hc; cases hc
    rw [if_neg ey] at hc
    obtain ⟨⟨ns2, memo2, c2, n⟩, hq, hc⟩ := Option.bind_eq_some_iff.1 hc
    simp only at hc
    by_cases en : n = -1002
    · rw [if_pos en] at hc; cases hc
    rw [if_neg en] at hc
    obtain ⟨⟨ns3, r3⟩, hs, hc⟩ := Option.bind_eq_some_iff.1 hc
    simp only at hc
    by_cases er : r3 = -1002
    · rw [if_pos er] at hc; cases hc
    rw [if_neg er] at hc
    by_cases ec : 1000000000 ≤ c2
    · rw [if_pos ec] at hc; cases hc
    rw [if_neg ec] at hc
    simp at hc
    obtain ⟨rfl, rfl, rfl, rfl⟩ := hc
    exact .inr (.inr (.inr ⟨h0, e4, rfl, ns1, memo1, c1, y, ns2, memo2, c2, n, hp, ey, hq, en, hs, er, by omega, rfl, rfl⟩))
set_option maxHeartbeats 1000000 in
theorem chooseP_calls : ∀ k, chooseCalls 58 49 k
  | 0 => by
    intro ns ns' memo memo' c c' f g h r S m mm v full w _ _ _ _ _ hc
    cases hc
  | k + 1 => by
    intro ns ns' memo memo' c c' f g h r S m mm v full w hw hmo vf vg vh hc hS hM hne
    have lf := valid_lt vf
    have lg := valid_lt vg
    have lh := valid_lt vh
    have hl := hS.len
    rcases chooseF_split hc with ⟨h1, rfl, rfl, rfl, rfl⟩ | ⟨h0, h1, rfl, rfl, rfl, hr⟩ | ⟨h0, h1, h2, rfl, rfl, rfl⟩ | ⟨h0, h1, h2, ns1, memo1, c1, y, ns2, memo2, c2, n, hp, ey, hq, en, hs, er, ec, rfl, rfl⟩
    · refine (chooseP_leaf f g h S mm w h1).mono ?_
      rintro e w' ⟨he, rfl⟩
      exact chooseEnd_now hS hM he
    · subst hr
      refine (chooseP_same f _ h S mm w h0 (by omega) h1).mono ?_
      rintro e w' ⟨he, rfl⟩
      exact chooseEnd_now hS hM he
    · exact chooseP_memo ns' memo' c' f g h r S m mm v full w hS hM h0 h1 ⟨okI_of (by omega) (by omega), okI_of (by omega) (by omega), okI_of (by omega) (by omega)⟩ (by omega) h2
    · exact chooseP_goes k (chooseP_calls k) ns ns1 ns2 ns' memo memo1 memo2 c c1 c2 f g h y n r S m mm v full w hw hmo vf vg vh h0 h1 h2 hp ey hq en hs er ec hS hM hne
set_option maxHeartbeats 1000000 in
theorem chooseR_calls : ∀ k, chooseCalls 67 50 k
  | 0 => by
    intro ns ns' memo memo' c c' f g h r S m mm v full w _ _ _ _ _ hc
    cases hc
  | k + 1 => by
    intro ns ns' memo memo' c c' f g h r S m mm v full w hw hmo vf vg vh hc hS hM hne
    have lf := valid_lt vf
    have lg := valid_lt vg
    have lh := valid_lt vh
    have hl := hS.len
    rcases chooseF_split hc with ⟨h1, rfl, rfl, rfl, rfl⟩ | ⟨h0, h1, rfl, rfl, rfl, hr⟩ | ⟨h0, h1, h2, rfl, rfl, rfl⟩ | ⟨h0, h1, h2, ns1, memo1, c1, y, ns2, memo2, c2, n, hp, ey, hq, en, hs, er, ec, rfl, rfl⟩
    · refine (chooseR_leaf f g h S mm w h1).mono ?_
      rintro e w' ⟨he, rfl⟩
      exact chooseEnd_now hS hM he
    · subst hr
      refine (chooseR_same f _ h S mm w h0 (by omega) h1).mono ?_
      rintro e w' ⟨he, rfl⟩
      exact chooseEnd_now hS hM he
    · exact chooseR_memo ns' memo' c' f g h r S m mm v full w hS hM h0 h1 ⟨okI_of (by omega) (by omega), okI_of (by omega) (by omega), okI_of (by omega) (by omega)⟩ (by omega) h2
    · exact chooseR_goes k (chooseR_calls k) ns ns1 ns2 ns' memo memo1 memo2 c c1 c2 f g h y n r S m mm v full w hw hmo vf vg vh h0 h1 h2 hp ey hq en hs er ec hS hM hne
end Go.Proofs.Ytihikenmknphkaa.Q
