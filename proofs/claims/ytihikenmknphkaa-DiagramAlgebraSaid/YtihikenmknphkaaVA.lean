/-
  Diagrams, plainly: what a diagram contains; a search that marks it; maps of marks keyed by numbers. No condition.
  Diagrams: the walks of reach and of its closure. No condition beyond those that stand in each. (Written by wip/tools/gen_visit.py.)
  Diagrams: the walk of reach. No condition beyond those that stand in each.
  Diagrams, plainly: the reference's search with a stack. No condition.
  Diagrams: the walk of the reference's reach. No condition beyond those that stand in each. (Written by wip/tools/gen_reach.py.)
  Diagrams: ranging over the marks; the walks of Size. No condition beyond those that stand in each. (Written by wip/tools/gen_size.py.)
  Diagrams: the leaves, plainly; the walk of the reference's Leaves. No condition beyond those that stand in each.
-/
import Derived.Test.YtihikenmknphkaaCA
import Derived.Shelf.Abstract
import Derived.Laws.EntriesVeiled
import Derived.Outline
import Derived.Maps.RangeWalk
namespace Go.Proofs.Ytihikenmknphkaa.Q
open Go Go.RowKit Go.Maps Go.Proofs.YtihikenmknphkaaW.PrintWords Go.Proofs.YtihikenmknphkaaW.PrintLast Go.Proofs.YtihikenmknphkaaW.PrintMore Go.Proofs.Ytihikenmknphkaa.M
set_option linter.unusedVariables false
set_option linter.unusedSimpArgs false

/-- a diagram contains -/
inductive Rc (ns : List N39) (a : Int) : Int → Prop
  | refl : Rc ns a a
  | yes {x : Int} : Rc ns a x → 0 ≤ x → Rc ns a (rd_T39 ns x).f1
  | no {x : Int} : Rc ns a x → 0 ≤ x → Rc ns a (rd_T39 ns x).f2
theorem Rc.trans {ns : List N39} {a b c : Int} (h : Rc ns a b) (k : Rc ns b c) : Rc ns a c := by
  induction k with
  | refl => exact h
  | yes _ h0 ih => exact .yes ih h0
  | no _ h0 ih => exact .no ih h0
theorem WF.way {ns : List N39} (h : WF ns) {x : Int} (h0 : 0 ≤ x) (hx : validN ns x = true) : (-1002 < (rd_T39 ns x).f1 ∧ (rd_T39 ns x).f1 < x) ∧ (-1002 < (rd_T39 ns x).f2 ∧ (rd_T39 ns x).f2 < x) := by
  obtain ⟨hi, e⟩ := rd_int39 h0 (valid_lt hx).2
  rw [e]
  have := h.nd _ hi
  omega
theorem WF.ways {ns : List N39} (h : WF ns) {x : Int} (h0 : 0 ≤ x) (hx : validN ns x = true) : validN ns (rd_T39 ns x).f1 = true ∧ validN ns (rd_T39 ns x).f2 = true := by
  have := h.way h0 hx
  have := valid_lt hx
  exact ⟨valid_iff.2 (by omega), valid_iff.2 (by omega)⟩
theorem Rc.valid {ns : List N39} (h : WF ns) {a x : Int} (ha : validN ns a = true) (hr : Rc ns a x) : validN ns x = true ∧ x ≤ a := by
  induction hr with
  | refl => exact ⟨ha, by omega⟩
  | yes _ h0 ih => exact ⟨(h.ways h0 ih.1).1, by have := h.way h0 ih.1; omega⟩
  | no _ h0 ih => exact ⟨(h.ways h0 ih.1).2, by have := h.way h0 ih.1; omega⟩
abbrev SeenI := Int → Bool
def markI (s : SeenI) (x : Int) : SeenI := fun y => decide (y = x) || s y
/-- the recursive search -/
def visitF (ns : List N39) : Nat → SeenI → Int → Option SeenI
  | 0, _, _ => none
  | k + 1, s, id => if s id then some s else if id < 0 then some (markI s id) else (visitF ns k (markI s id) (rd_T39 ns id).f1).bind fun s1 => visitF ns k s1 (rd_T39 ns id).f2
/-- what is marked stays, what is new is contained, and is closed but for the ids under way -/
theorem visit_ok {ns : List N39} (hw : WF ns) : ∀ (k : Nat) (s : SeenI) (id : Int), validN ns id = true → (id + 2).toNat < k →
    ∃ s', visitF ns k s id = some s' ∧ (∀ x, s x = true → s' x = true) ∧ s' id = true ∧ (∀ x, s' x = true → s x = true ∨ Rc ns id x) ∧ (∀ x, s' x = true → 0 ≤ x → s x = true ∨ (s' (rd_T39 ns x).f1 = true ∧ s' (rd_T39 ns x).f2 = true))
  | 0, s, id, hv, hk => by omega
  | k + 1, s, id, hv, hk => by
    unfold visitF
    by_cases hs : s id = true
    · rw [if_pos hs]
      exact ⟨s, rfl, fun x h => h, hs, fun x h => .inl h, fun x h _ => .inl h⟩
    · rw [if_neg hs]
      by_cases h0 : id < 0
      · rw [if_pos h0]
        refine ⟨_, rfl, fun x h => by simp [markI, h], by simp [markI], fun x h => ?_, fun x h hx => ?_⟩
        · simp [markI] at h
          rcases h with e | e
          · exact .inr (e ▸ .refl)
          · exact .inl e
        · simp [markI] at h
          rcases h with e | e
          · omega
          · exact .inl e
      · rw [if_neg h0]
        have hp : 0 ≤ id := by omega
        have hway := hw.way hp hv
        have hways := hw.ways hp hv
        obtain ⟨s1, e1, a1, b1, c1, d1⟩ := visit_ok hw k (markI s id) _ hways.1 (by omega)
        obtain ⟨s2, e2, a2, b2, c2, d2⟩ := visit_ok hw k s1 _ hways.2 (by omega)
        rw [e1]
        refine ⟨s2, e2, fun x h => a2 x (a1 x (by simp [markI, h])), a2 _ (a1 _ (by simp [markI])), fun x h => ?_, fun x h hx => ?_⟩
        · rcases c2 x h with e | e
          · rcases c1 x e with e' | e'
            · simp [markI] at e'
              rcases e' with e'' | e''
              · exact .inr (e'' ▸ .refl)
              · exact .inl e''
            · exact .inr ((Rc.yes .refl hp).trans e')
          · exact .inr ((Rc.no .refl hp).trans e)
        · rcases d2 x h hx with e | e
          · rcases d1 x e hx with e' | e'
            · simp [markI] at e'
              rcases e' with e'' | e''
              · subst e''
                exact .inr ⟨a2 _ b1, b2⟩
              · exact .inl e''
            · exact .inr ⟨a2 _ e'.1, a2 _ e'.2⟩
          · exact .inr e
theorem reach_visit {ns : List N39} (hw : WF ns) {id : Int} (hv : validN ns id = true) : ∃ s', visitF ns (ns.length + 3) (fun _ => false) id = some s' ∧ ∀ x, s' x = true ↔ Rc ns id x := by
  have := valid_lt hv
  obtain ⟨s', e, _, b, c, d⟩ := visit_ok hw (ns.length + 3) (fun _ => false) id hv (by omega)
  refine ⟨s', e, fun x => ⟨fun h => (c x h).resolve_left (by simp), fun h => ?_⟩⟩
  induction h with
  | refl => exact b
  | yes _ h0 ih => exact ((d _ ih h0).resolve_left (by simp)).1
  | no _ h0 ih => exact ((d _ ih h0).resolve_left (by simp)).2

/-! ### maps of marks -/
theorem K3i : Keyed Try.prog 3 := int_keyed Try.underlying3
def kI (x : Int) : Lit := .int .i64 x
theorem keyI {x : Int} (h : okI x) : keyOf Try.prog 3 (.int .i64 x) = some (kI x) := keyOf_int_mk Try.underlying3 h
def bvI (s : SeenI) : Lit → Option Value
  | .int .i64 x => if s x then some (.bool true) else none
  | _ => none
theorem bvI_get (s : SeenI) (x : Int) : (bvI s (kI x)).getD (.bool false) = .bool (s x) := by
  unfold bvI kI
  cases h : s x <;> simp [h]
theorem bvI_mark (s : SeenI) (x : Int) : upd (bvI s) (kI x) (.bool true) = bvI (markI s x) := by
  funext kl
  by_cases h : kl = kI x
  · rw [h, upd_same]
    simp [bvI, kI, markI]
  · rw [upd_other _ _ h]
    cases kl with
    | int q y =>
      cases q with
      | i64 =>
        have hne : y ≠ x := fun e => h (by rw [e]; rfl)
        simp [bvI, markI, hne]
      | _ => rfl
    | _ => rfl
theorem bvI_none : bvI (fun _ => false) = fun _ => none := by
  funext kl
  cases kl with
  | int q y => cases q <;> simp [bvI]
  | _ => rfl
theorem zero4 (w : World) : (zeroValue 4).run Try.prog w = .ok (.bool false) w := by kernel_rfl
theorem nodup_le {α : Type} : ∀ {l S : List α}, l.Nodup → (∀ x ∈ l, x ∈ S) → l.length ≤ S.length
  | [], S, _, _ => Nat.zero_le _
  | a :: l, S, h, hs => by
    obtain ⟨s1, s2, rfl⟩ := List.append_of_mem (hs a (by simp))
    have hn := List.nodup_cons.1 h
    have := nodup_le (l := l) (S := s1 ++ s2) hn.2 (fun x hx => by
      have h1 := hs x (by simp [hx])
      simp only [List.mem_append, List.mem_cons] at h1 ⊢
      rcases h1 with e | e | e
      · exact .inl e
      · exact absurd (e ▸ hx) hn.1
      · exact .inr e)
    simp at this ⊢
    omega
/-- a map holds no more entries than there are keys at which it may hold one -/
theorem MapIs_bound {P : Program} {k : TypeId} {w : World} {b n : Nat} {f : Lit → Option Value} (h : MapIs P k w b n f) (K : Maps.Keyed P k) (S : List Lit) (hS : ∀ kl v, f kl = some v → kl ∈ S) : MapIs P k w b S.length f := by
  classical
  obtain ⟨D, h1, h2⟩ := h
  obtain ⟨es, e1, hp, hk⟩ := h1.entries K
  obtain ⟨es0, clock, hb, F, hs, hD⟩ := h1
  have hlen : es.length = es0.size := by
    rw [e1] at hD
    injection hD with hD
    rw [hD, length_sorted]
    simp
  have hin : ∀ p ∈ es, p.1 ∈ S := by
    intro p hp'
    have h3 := h2 p.1 .nil
    have h4 : ∃ q, es.find? (fun q => q.1.sameKey p.1) = some q := by
      rw [← Option.isSome_iff_exists, List.find?_isSome]
      exact ⟨p, hp', WideAt.sameKey_self (hk p hp')⟩
    obtain ⟨q, hq⟩ := h4
    cases hf : f p.1 with
    | some v => exact hS _ v hf
    | none =>
      have h5 := h2 p.1 (.lit (.bool true))
      rw [hf, e1] at h3 h5
      simp only [DataW.atKey, hq] at h3 h5
      rw [h3] at h5
      cases h5
  have hle : es.length ≤ S.length := by
    have := nodup_le (l := es.map Prod.fst) (S := S) (by rw [List.Nodup, List.pairwise_map]; exact hp) (fun x hx => by
      obtain ⟨p, hp', rfl⟩ := List.mem_map.1 hx
      exact hin p hp')
    simpa using this
  exact ⟨D, ⟨es0, clock, hb, F, by omega, hD⟩, h2⟩
/-- the ids of a store -/
def idsL (ns : List N39) : List Int := (List.range (ns.length + 1001)).map fun (i : Nat) => (i : Int) - 1001
theorem mem_idsL {ns : List N39} {x : Int} : x ∈ idsL ns ↔ validN ns x = true := by
  rw [valid_iff]
  unfold idsL
  rw [List.mem_map]
  constructor
  · rintro ⟨i, hi, rfl⟩
    rw [List.mem_range] at hi
    omega
  · intro h
    exact ⟨(x + 1001).toNat, by rw [List.mem_range]; omega, by omega⟩
def cntI (ns : List N39) : Nat := ns.length + 1001
theorem bvI_bound {ns : List N39} {w : World} {b n : Nat} {s : SeenI} (h : MapIs Try.prog 3 w b n (bvI s)) (hs : ∀ x, s x = true → validN ns x = true) : MapIs Try.prog 3 w b (cntI ns) (bvI s) := by
  have := MapIs_bound h K3i ((idsL ns).map kI) (fun kl v hv => by
    cases kl with
    | int q y =>
      cases q with
      | i64 =>
        simp only [bvI] at hv
        split at hv
        · rename_i hy
          exact List.mem_map.2 ⟨y, mem_idsL.2 (hs y hy), rfl⟩
        · cases hv
      | _ => cases hv
    | _ => cases hv)
  have e : ((idsL ns).map kI).length = cntI ns := by unfold idsL cntI; simp
  rwa [e] at this
end Go.Proofs.Ytihikenmknphkaa.Q

namespace Go.Proofs.Ytihikenmknphkaa.Q
open Go Go.RowKit Go.Maps Go.Proofs.YtihikenmknphkaaW.PrintWords Go.Proofs.YtihikenmknphkaaW.PrintLast Go.Proofs.YtihikenmknphkaaW.PrintMore Go.Proofs.Ytihikenmknphkaa.M
set_option linter.unusedVariables false
set_option linter.unusedSimpArgs false

theorem enters54 (args : Array Value) (w : World) : (callFunc 54 args).run Try.prog w = .ok (.enter 54 args) w := enters_of Try.func54 (by kernel_rfl) rfl args w
/-- the boxes that the closure sees -/
structure Vis (w : World) (S b0 b1 b2 b3 : Nat) : Prop where
  h0 : w.heap[b0]? = some (.cells #[.pointer (some ⟨S, 0, none⟩)] 26 (0, 0))
  h2 : w.heap[b2]? = some (.cells #[.map (some b1)] 62 (0, 0))
  h3 : w.heap[b3]? = some (.cells #[.func (.func 54) #[] #[.pointer (some ⟨b2, 0, none⟩), .pointer (some ⟨b3, 0, none⟩), .pointer (some ⟨b0, 0, none⟩)]] 73 (0, 0))
theorem Vis.fr {w w' : World} {S b0 b1 b2 b3 n : Nat} {f : Lit → Option Value} (h : Vis w S b0 b1 b2 b3) (hm : MapIs Try.prog 3 w b1 n f) (hk : Fr w w' (fun k => k = b1)) : Vis w' S b0 b1 b2 b3 :=
  ⟨hk.heap h.h0 (fun e => MapIs.no_cells hm (e ▸ h.h0)), hk.heap h.h2 (fun e => MapIs.no_cells hm (e ▸ h.h2)), hk.heap h.h3 (fun e => MapIs.no_cells hm (e ▸ h.h3))⟩
def visitCalls (k : Nat) : Prop := ∀ (ns : List N39) (s s' : SeenI) (id : Int) (S m b0 b1 b2 b3 : Nat) (v : Value) (full : Bool) (w : World), WF ns → validN ns id = true → (∀ x, s x = true → validN ns x = true) → visitF ns k s id = some s' → StAt 58 w S m v ns full → Vis w S b0 b1 b2 b3 → MapIs Try.prog 3 w b1 (cntI ns) (bvI s) → b1 ≠ m →
    Calls Try.prog 54 #[.int .i64 id, .pointer (some ⟨b2, 0, none⟩), .pointer (some ⟨b3, 0, none⟩), .pointer (some ⟨b0, 0, none⟩)] w fun e w' => e = .returned (.tuple #[]) ∧ MapIs Try.prog 3 w' b1 (cntI ns) (bvI s') ∧ Fr w w' (fun k => k = b1)
theorem visit_valid {ns : List N39} (hw : WF ns) : ∀ (k : Nat) (s s' : SeenI) (id : Int), validN ns id = true → (∀ x, s x = true → validN ns x = true) → visitF ns k s id = some s' → ∀ x, s' x = true → validN ns x = true
  | 0, s, s', id, _, _, h => by cases h
  | k + 1, s, s', id, hv, hs, h => by
    unfold visitF at h
    have hmk : ∀ x, markI s id x = true → validN ns x = true := fun x hx => by
      simp [markI] at hx
      rcases hx with e | e
      · rw [e]; exact hv
      · exact hs x e
    by_cases h1 : s id = true
    · rw [if_pos h1] at h; cases h; exact hs
    · rw [if_neg h1] at h
      by_cases h2 : id < 0
      · rw [if_pos h2] at h; cases h; exact hmk
      · rw [if_neg h2] at h
        obtain ⟨s1, e1, e2⟩ := Option.bind_eq_some_iff.1 h
        have hways := hw.ways (by omega) hv
        exact visit_valid hw k s1 s' _ hways.2 (visit_valid hw k _ s1 _ hways.1 hmk e1) e2

set_option maxHeartbeats 4000000 in
theorem visit_calls : ∀ k, visitCalls k
  | 0 => by
    intro ns s s' id S m b0 b1 b2 b3 v full w _ _ _ h
    cases h
  | k + 1 => by
    intro ns s s' id S m b0 b1 b2 b3 v full w hw hv hs h hS hV hM hne
    have lv := valid_lt hv
    have hl := hS.len
    have HKI := Aside0.mk (keyI (okI_of (a := id) (by omega) (by omega)))
    have HM := Aside0.mk hM
    have HS := Aside0.mk hS
    have HV := Aside0.mk hV
    have q2 : w.cell? ⟨b2, 0, none⟩ = some (.map (some b1)) := (blk_cell hV.h2 0).trans rfl
    have HQ := Aside0.mk (bvI_get s id)
    unfold visitF at h
    cases hsi : s id with
    | true =>
      rw [hsi, if_pos rfl] at h
      have HQ2 : Aside0 ((bvI s (kI id)).getD (.bool false) = .bool true) := ⟨by rw [HQ.out, hsi]⟩
      have HE : Aside0 (s = s') := ⟨by injection h⟩
      clear hsi h hS hV hM hw hv hs
      go_enter Try.func54, Try.ntmps54
      go_wp2_with (at_lookup; refine lookup_one _ rfl _ _ 62 rfl 3 4 K3i Try.underlying62 _ (zero4 _) b1 _ (bvI s) rfl HM.out (.int .i64 id) (kI id) rfl HKI.out ?_; rw [HQ2.out])
      refine bodyPost_ret (results_none rfl _ _ _) rfl ?_
      exact ⟨rfl, by rw [← HE.out]; exact HM.out, Fr.refl _ _⟩
    | false =>
      rw [hsi] at h
      simp only [Bool.false_eq_true, if_false] at h
      have HQ2 : Aside0 ((bvI s (kI id)).getD (.bool false) = .bool false) := ⟨by rw [HQ.out, hsi]⟩
      have hmk : ∀ x, markI s id x = true → validN ns x = true := fun x hx => by
        simp [markI] at hx
        rcases hx with e | e
        · rw [e]; exact hv
        · exact hs x e
      have HMK := Aside0.mk hmk
      clear hsi
      by_cases h0 : id < 0
      · rw [if_pos h0] at h
        have HE : Aside0 (markI s id = s') := ⟨by injection h⟩
        have d0 : decide (0 ≤ id) = false := by simp; omega
        clear h hS hV hM hw hv hs hmk
        go_enter Try.func54, Try.ntmps54
        go_wp2_with (first | (at_lookup; refine lookup_one _ rfl _ _ 62 rfl 3 4 K3i Try.underlying62 _ (zero4 _) b1 _ (bvI s) rfl HM.out (.int .i64 id) (kI id) rfl HKI.out ?_; rw [HQ2.out]) | (at_mapUpdate; refine store_one _ rfl _ _ _ 62 (Or.inl rfl) 3 4 K3i Try.underlying62 b1 _ (bvI s) rfl HM.out (by unfold cntI maxLen; omega) (.int .i64 id) (.bool true) (kI id) rfl rfl HKI.out ?_; intro w1 hm1 hg1 hz1; rw [bvI_mark] at hm1; have HM1 := Aside0.mk (bvI_bound hm1 HMK.out); have HG1 := Aside0.mk hg1; clear hm1 hg1 hz1))
        go_end0
        exact ⟨rfl, by rw [← HE.out]; exact HM1.out, (Fr.of_grown HG1.out).mono (fun k _ e => by injection e with e; exact e.symm)⟩
      · rw [if_neg h0] at h
        obtain ⟨s1, e1, e2⟩ := Option.bind_eq_some_iff.1 h
        have hp : 0 ≤ id := by omega
        have hways := hw.ways hp hv
        have hs1 := visit_valid hw k _ s1 _ hways.1 hmk e1
        obtain ⟨A, c, ev⟩ := Kd.R_slice hS.row
        subst ev
        obtain ⟨ad, e, hx0, hx1, hx2⟩ := at_T39 (Kd.R_reads' hS.row).2.2 id hp lv.2
        cases e
        have I1 := Aside0.mk (fun (W : World) (a : StAt 58 W S m (.slice (some ad) ns.length c) ns full) (b : Vis W S b0 b1 b2 b3) (d : MapIs Try.prog 3 W b1 (cntI ns) (bvI (markI s id))) => visit_calls k ns _ s1 _ S m b0 b1 b2 b3 _ full W hw hways.1 hmk e1 a b d hne)
        have I2 := Aside0.mk (fun (W : World) (a : StAt 58 W S m (.slice (some ad) ns.length c) ns full) (b : Vis W S b0 b1 b2 b3) (d : MapIs Try.prog 3 W b1 (cntI ns) (bvI s1)) => visit_calls k ns s1 s' _ S m b0 b1 b2 b3 _ full W hw hways.2 hs1 e2 a b d hne)
        have HX := Aside0.mk (show ∀ W : World, StAt 58 W S m (.slice (some ad) ns.length c) ns full → W.cell? ⟨(ad.add (id.toNat * 3)).block, (ad.add (id.toNat * 3)).off + 1, none⟩ = some (.int .i64 (rd_T39 ns id).f1) ∧ W.cell? ⟨(ad.add (id.toNat * 3)).block, (ad.add (id.toNat * 3)).off + 2, none⟩ = some (.int .i64 (rd_T39 ns id).f2) from fun W a => by
          obtain ⟨ad', e, _, g1, g2⟩ := at_T39 (Kd.R_reads' a.row).2.2 id hp lv.2
          cases e
          exact ⟨g1, g2⟩)
        generalize (rd_T39 ns id).f1 = x1 at I1 HX
        generalize (rd_T39 ns id).f2 = x2 at I2 HX
        have he54 := enters54
        have d0 : decide (0 ≤ id) = true := by simpa using hp
        clear h hS hV hM hw hv hs hmk e1 e2 hways hs1 hx0 hx1 hx2
        go_enter Try.func54, Try.ntmps54
        go_wp2_with (first | (at_lookup; refine lookup_one _ rfl _ _ 62 rfl 3 4 K3i Try.underlying62 _ (zero4 _) b1 _ (bvI s) rfl HM.out (.int .i64 id) (kI id) rfl HKI.out ?_; rw [HQ2.out]) | (at_mapUpdate; refine store_one _ rfl _ _ _ 62 (Or.inl rfl) 3 4 K3i Try.underlying62 b1 _ (bvI s) rfl HM.out (by unfold cntI maxLen; omega) (.int .i64 id) (.bool true) (kI id) rfl rfl HKI.out ?_; intro w1 hm1 hg1 hz1; rw [bvI_mark] at hm1; have HM1 := Aside0.mk (bvI_bound hm1 HMK.out); have HG1 := Aside0.mk hg1; clear hm1 hg1 hz1))
        have HF1 : Aside0 (Fr w w1 (fun k => k = b1)) := ⟨(Fr.of_grown HG1.out).mono (fun k _ e => by injection e with e; exact e.symm)⟩
        have HS1 := Aside0.mk (HS.out.kept HF1.out (fun j hj e => HS.out.mm HM.out hne (by rw [← e]; exact hj)))
        have HV1 := Aside0.mk (HV.out.fr HM.out HF1.out)
        clear q2 HG1
        have q3 := (blk_cell HV1.out.h3 0).trans (show _ = some _ from rfl)
        have q0 := (blk_cell HV1.out.h0 0).trans (show _ = some _ from rfl)
        have qS := HS1.out.cell0
        have hx1 := (HX.out _ HS1.out).1
        refine start_ (n := 10) (S := fun w' => w'.cell? ⟨b3, 0, none⟩ = some (.func (.func 54) #[] #[.pointer (some ⟨b2, 0, none⟩), .pointer (some ⟨b3, 0, none⟩), .pointer (some ⟨b0, 0, none⟩)]) ∧ w'.cell? ⟨b0, 0, none⟩ = some (.pointer (some ⟨S, 0, none⟩)) ∧ w'.cell? ⟨S, 0, none⟩ = some (.slice (some ad) ns.length c) ∧ w'.cell? ⟨(ad.add (id.toNat * 3)).block, (ad.add (id.toNat * 3)).off + 1, none⟩ = some (.int .i64 x1)) (ds := [9]) #[false, false, false, false, false, false, false, false, false, false] (by kernel_rfl) rfl rfl ⟨q3, q0, qS, hx1⟩ (fun hHeld => ?_)
        refine pure_ (i := 5) (N := some 17) (v := ?_) (a' := ?_) #[false, false, false, false, false, true, false, false, false, false] rfl rfl (by kernel_rfl) (fun _ _ _ h => h) (Or.inl ⟨by rfl, ?_⟩) ?_ ?_
        rotate_left
        · intro w'
          go_simp
          with_reducible rfl
        rotate_left
        · simp only [Act.put, List.setIfInBounds_toArray, List.set_cons_zero, List.set_cons_succ, i64_w, i32_w]
          rfl
        refine take_ (i := 0) (N := some 12) (v := ?_) (a' := ?_) #[true, false, false, false, false, true, false, false, false, false] rfl rfl (by kernel_rfl) (fun _ _ _ h => h) (Or.inl ⟨by rfl, ?_⟩) hHeld ?_ ?_
        rotate_left
        · rintro w' ⟨s0, s1, s2, s3⟩
          go_simp
          with_reducible rfl
        rotate_left
        · simp only [Act.put, List.setIfInBounds_toArray, List.set_cons_zero, List.set_cons_succ, i64_w, i32_w]
          rfl
        refine take_ (i := 1) (N := some 13) (v := ?_) (a' := ?_) #[true, true, false, false, false, true, false, false, false, false] rfl rfl (by kernel_rfl) (fun _ _ _ h => h) (Or.inl ⟨by rfl, ?_⟩) hHeld ?_ ?_
        rotate_left
        · rintro w' ⟨s0, s1, s2, s3⟩
          go_simp
          with_reducible rfl
        rotate_left
        · simp only [Act.put, List.setIfInBounds_toArray, List.set_cons_zero, List.set_cons_succ, i64_w, i32_w]
          rfl
        refine pure_ (i := 2) (N := some 14) (v := ?_) (a' := ?_) #[true, true, true, false, false, true, false, false, false, false] rfl rfl (by kernel_rfl) (fun _ _ _ h => h) (Or.inl ⟨by rfl, ?_⟩) ?_ ?_
        rotate_left
        · intro w'
          go_simp
          with_reducible rfl
        rotate_left
        · simp only [Act.put, List.setIfInBounds_toArray, List.set_cons_zero, List.set_cons_succ, i64_w, i32_w]
          rfl
        refine pure_ (i := 3) (N := some 15) (v := ?_) (a' := ?_) #[true, true, true, true, false, true, false, false, false, false] rfl rfl (by kernel_rfl) (fun _ _ _ h => h) (Or.inl ⟨by rfl, ?_⟩) ?_ ?_
        rotate_left
        · intro w'
          go_simp
          with_reducible rfl
        rotate_left
        · simp only [Act.put, List.setIfInBounds_toArray, List.set_cons_zero, List.set_cons_succ, i64_w, i32_w]
          rfl
        refine take_ (i := 4) (N := some 16) (v := ?_) (a' := ?_) #[true, true, true, true, true, true, false, false, false, false] rfl rfl (by kernel_rfl) (fun _ _ _ h => h) (Or.inl ⟨by rfl, ?_⟩) hHeld ?_ ?_
        rotate_left
        · rintro w' ⟨s0, s1, s2, s3⟩
          go_simp
          with_reducible rfl
        rotate_left
        · simp only [Act.put, List.setIfInBounds_toArray, List.set_cons_zero, List.set_cons_succ, i64_w, i32_w]
          rfl
        refine pure_ (i := 6) (N := some 18) (v := ?_) (a' := ?_) #[true, true, true, true, true, true, true, false, false, false] rfl rfl (by kernel_rfl) (fun _ _ _ h => h) (Or.inl ⟨by rfl, ?_⟩) ?_ ?_
        rotate_left
        · intro w'
          go_simp
          with_reducible rfl
        rotate_left
        · simp only [Act.put, List.setIfInBounds_toArray, List.set_cons_zero, List.set_cons_succ, i64_w, i32_w]
          rfl
        refine pure_ (i := 7) (N := some 19) (v := ?_) (a' := ?_) #[true, true, true, true, true, true, true, true, false, false] rfl rfl (by kernel_rfl) (fun _ _ _ h => h) (Or.inl ⟨by rfl, ?_⟩) ?_ ?_
        rotate_left
        · intro w'
          go_simp
          with_reducible rfl
        rotate_left
        · simp only [Act.put, List.setIfInBounds_toArray, List.set_cons_zero, List.set_cons_succ, i64_w, i32_w]
          rfl
        refine take_ (i := 8) (N := some 20) (v := ?_) (a' := ?_) #[true, true, true, true, true, true, true, true, true, false] rfl rfl (by kernel_rfl) (fun _ _ _ h => h) (Or.inl ⟨by rfl, ?_⟩) hHeld ?_ ?_
        rotate_left
        · rintro w' ⟨s0, s1, s2, s3⟩
          go_simp
          with_reducible rfl
        rotate_left
        · simp only [Act.put, List.setIfInBounds_toArray, List.set_cons_zero, List.set_cons_succ, i64_w, i32_w]
          rfl
        refine last_ (i := 9) (N := some 21) #[true, true, true, true, true, true, true, true, true, true] rfl rfl (by kernel_rfl) (by decide) (fun K hK => ?_)
        refine call_ 54 #[.int .i64 x1, .pointer (some ⟨b2, 0, none⟩), .pointer (some ⟨b3, 0, none⟩), .pointer (some ⟨b0, 0, none⟩)] rfl rfl (by first | (go_simp; done) | (go_simp; rfl)) ?_
        refine (I1.out _ (StAt.kept HS1.out ((Fr.refl w1 (fun _ => False)).drew) (fun _ _ h => h)) (show Vis w1.drew S b0 b1 b2 b3 from ⟨HV1.out.h0, HV1.out.h2, HV1.out.h3⟩) (MapIs.drew HM1.out)).mono ?_
        rintro e w2 ⟨rfl, hm2, hf2⟩
        refine ⟨_, rfl, hK.out _ _ ?_⟩
        clear hK K
        have HM2 := Aside0.mk hm2
        have HF2 : Aside0 (Fr w1 w2 (fun k => k = b1)) := ⟨((Fr.refl w1 _).drew).trans hf2 (fun j hj => .inl hj)⟩
        have HS2 := Aside0.mk (HS1.out.kept HF2.out (fun j hj e => HS1.out.mm HM1.out hne (by rw [← e]; exact hj)))
        have HV2 := Aside0.mk (HV1.out.fr HM1.out HF2.out)
        have HFw2 : Aside0 (Fr w w2 (fun k => k = b1)) := ⟨HF1.out.trans HF2.out (fun j hj => .inl hj)⟩
        clear hm2 hf2 q3 q0 qS hx1 hHeld I1
        refine done_ (by kernel_rfl) ?_
        simp only [Exit.then, Act.put, List.setIfInBounds_toArray, List.set_cons_zero, List.set_cons_succ, i64_w, i32_w]
        rename_i HJ
        refine HJ _ _ ?_
        clear HJ
        have q3 := (blk_cell HV2.out.h3 0).trans (show _ = some _ from rfl)
        have q0 := (blk_cell HV2.out.h0 0).trans (show _ = some _ from rfl)
        have qS := HS2.out.cell0
        have hx2 := (HX.out _ HS2.out).2
        go_wp2
        refine start_ (n := 10) (S := fun w' => w'.cell? ⟨b3, 0, none⟩ = some (.func (.func 54) #[] #[.pointer (some ⟨b2, 0, none⟩), .pointer (some ⟨b3, 0, none⟩), .pointer (some ⟨b0, 0, none⟩)]) ∧ w'.cell? ⟨b0, 0, none⟩ = some (.pointer (some ⟨S, 0, none⟩)) ∧ w'.cell? ⟨S, 0, none⟩ = some (.slice (some ad) ns.length c) ∧ w'.cell? ⟨(ad.add (id.toNat * 3)).block, (ad.add (id.toNat * 3)).off + 2, none⟩ = some (.int .i64 x2)) (ds := [9]) #[false, false, false, false, false, false, false, false, false, false] (by kernel_rfl) rfl rfl ⟨q3, q0, qS, hx2⟩ (fun hHeld => ?_)
        refine pure_ (i := 5) (N := some 27) (v := ?_) (a' := ?_) #[false, false, false, false, false, true, false, false, false, false] rfl rfl (by kernel_rfl) (fun _ _ _ h => h) (Or.inl ⟨by rfl, ?_⟩) ?_ ?_
        rotate_left
        · intro w'
          go_simp
          with_reducible rfl
        rotate_left
        · simp only [Act.put, List.setIfInBounds_toArray, List.set_cons_zero, List.set_cons_succ, i64_w, i32_w]
          rfl
        refine take_ (i := 0) (N := some 22) (v := ?_) (a' := ?_) #[true, false, false, false, false, true, false, false, false, false] rfl rfl (by kernel_rfl) (fun _ _ _ h => h) (Or.inl ⟨by rfl, ?_⟩) hHeld ?_ ?_
        rotate_left
        · rintro w' ⟨s0, s1, s2, s3⟩
          go_simp
          with_reducible rfl
        rotate_left
        · simp only [Act.put, List.setIfInBounds_toArray, List.set_cons_zero, List.set_cons_succ, i64_w, i32_w]
          rfl
        refine take_ (i := 1) (N := some 23) (v := ?_) (a' := ?_) #[true, true, false, false, false, true, false, false, false, false] rfl rfl (by kernel_rfl) (fun _ _ _ h => h) (Or.inl ⟨by rfl, ?_⟩) hHeld ?_ ?_
        rotate_left
        · rintro w' ⟨s0, s1, s2, s3⟩
          go_simp
          with_reducible rfl
        rotate_left
        · simp only [Act.put, List.setIfInBounds_toArray, List.set_cons_zero, List.set_cons_succ, i64_w, i32_w]
          rfl
        refine pure_ (i := 2) (N := some 24) (v := ?_) (a' := ?_) #[true, true, true, false, false, true, false, false, false, false] rfl rfl (by kernel_rfl) (fun _ _ _ h => h) (Or.inl ⟨by rfl, ?_⟩) ?_ ?_
        rotate_left
        · intro w'
          go_simp
          with_reducible rfl
        rotate_left
        · simp only [Act.put, List.setIfInBounds_toArray, List.set_cons_zero, List.set_cons_succ, i64_w, i32_w]
          rfl
        refine pure_ (i := 3) (N := some 25) (v := ?_) (a' := ?_) #[true, true, true, true, false, true, false, false, false, false] rfl rfl (by kernel_rfl) (fun _ _ _ h => h) (Or.inl ⟨by rfl, ?_⟩) ?_ ?_
        rotate_left
        · intro w'
          go_simp
          with_reducible rfl
        rotate_left
        · simp only [Act.put, List.setIfInBounds_toArray, List.set_cons_zero, List.set_cons_succ, i64_w, i32_w]
          rfl
        refine take_ (i := 4) (N := some 26) (v := ?_) (a' := ?_) #[true, true, true, true, true, true, false, false, false, false] rfl rfl (by kernel_rfl) (fun _ _ _ h => h) (Or.inl ⟨by rfl, ?_⟩) hHeld ?_ ?_
        rotate_left
        · rintro w' ⟨s0, s1, s2, s3⟩
          go_simp
          with_reducible rfl
        rotate_left
        · simp only [Act.put, List.setIfInBounds_toArray, List.set_cons_zero, List.set_cons_succ, i64_w, i32_w]
          rfl
        refine pure_ (i := 6) (N := some 28) (v := ?_) (a' := ?_) #[true, true, true, true, true, true, true, false, false, false] rfl rfl (by kernel_rfl) (fun _ _ _ h => h) (Or.inl ⟨by rfl, ?_⟩) ?_ ?_
        rotate_left
        · intro w'
          go_simp
          with_reducible rfl
        rotate_left
        · simp only [Act.put, List.setIfInBounds_toArray, List.set_cons_zero, List.set_cons_succ, i64_w, i32_w]
          rfl
        refine pure_ (i := 7) (N := some 29) (v := ?_) (a' := ?_) #[true, true, true, true, true, true, true, true, false, false] rfl rfl (by kernel_rfl) (fun _ _ _ h => h) (Or.inl ⟨by rfl, ?_⟩) ?_ ?_
        rotate_left
        · intro w'
          go_simp
          with_reducible rfl
        rotate_left
        · simp only [Act.put, List.setIfInBounds_toArray, List.set_cons_zero, List.set_cons_succ, i64_w, i32_w]
          rfl
        refine take_ (i := 8) (N := some 30) (v := ?_) (a' := ?_) #[true, true, true, true, true, true, true, true, true, false] rfl rfl (by kernel_rfl) (fun _ _ _ h => h) (Or.inl ⟨by rfl, ?_⟩) hHeld ?_ ?_
        rotate_left
        · rintro w' ⟨s0, s1, s2, s3⟩
          go_simp
          with_reducible rfl
        rotate_left
        · simp only [Act.put, List.setIfInBounds_toArray, List.set_cons_zero, List.set_cons_succ, i64_w, i32_w]
          rfl
        refine last_ (i := 9) (N := some 31) #[true, true, true, true, true, true, true, true, true, true] rfl rfl (by kernel_rfl) (by decide) (fun K hK => ?_)
        refine call_ 54 #[.int .i64 x2, .pointer (some ⟨b2, 0, none⟩), .pointer (some ⟨b3, 0, none⟩), .pointer (some ⟨b0, 0, none⟩)] rfl rfl (by first | (go_simp; done) | (go_simp; rfl)) ?_
        refine (I2.out _ (StAt.kept HS2.out ((Fr.refl w2 (fun _ => False)).drew) (fun _ _ h => h)) (show Vis w2.drew S b0 b1 b2 b3 from ⟨HV2.out.h0, HV2.out.h2, HV2.out.h3⟩) (MapIs.drew HM2.out)).mono ?_
        rintro e w3 ⟨rfl, hm3, hf3⟩
        refine ⟨_, rfl, hK.out _ _ ?_⟩
        clear hK K
        have HM3 := Aside0.mk hm3
        have HF3 : Aside0 (Fr w w3 (fun k => k = b1)) := ⟨HFw2.out.trans (((Fr.refl w2 _).drew).trans hf3 (fun j hj => .inl hj)) (fun j hj => .inl hj)⟩
        clear hm3 hf3 q3 q0 qS hx2 hHeld I2
        refine done_ (by kernel_rfl) ?_
        go_end0
        exact ⟨rfl, HM3.out, HF3.out⟩
end Go.Proofs.Ytihikenmknphkaa.Q

namespace Go.Proofs.Ytihikenmknphkaa.Q
open Go Go.RowKit Go.Maps Go.Proofs.YtihikenmknphkaaW.PrintWords Go.Proofs.YtihikenmknphkaaW.PrintLast Go.Proofs.YtihikenmknphkaaW.PrintMore Go.Proofs.Ytihikenmknphkaa.M
set_option linter.unusedVariables false
set_option linter.unusedSimpArgs false

/-- the marks of what a diagram contains -/
def Marks (ns : List N39) (id : Int) (s : SeenI) : Prop := ∀ x, s x = true ↔ validN ns id = true ∧ Rc ns id x
set_option maxHeartbeats 4000000 in
theorem reachP_calls (ns : List N39) (id : Int) (S m : Nat) (v : Value) (full : Bool) (w : World) (hw : WF ns) (hS : StAt 58 w S m v ns full) (ho : okI id) :
    Calls Try.prog 40 #[.pointer (some ⟨S, 0, none⟩), .int .i64 id] w fun e w' => ∃ (b1 : Nat) (s : SeenI), e = .returned (.map (some b1)) ∧ Marks ns id s ∧ MapIs Try.prog 3 w' b1 (cntI ns) (bvI s) ∧ w.heap.size ≤ b1 ∧ Fr w w' (fun _ => False) := by
  have hmm := @run_makeMap Try.prog
  obtain ⟨wq, hwq⟩ : ∃ wq : World, (((w.alloc (.cells #[.pointer (some ⟨S, 0, none⟩)] 26)).alloc (.map #[] 0)).alloc (.cells #[.map (some (w.heap.size + 1))] 62)).alloc (.cells #[.func (.func 54) #[] #[.pointer (some ⟨w.heap.size + 1 + 1, 0, none⟩), .pointer (some ⟨w.heap.size + 1 + 1 + 1, 0, none⟩), .pointer (some ⟨w.heap.size, 0, none⟩)]] 73) = wq := ⟨_, rfl⟩
  have HFq : Aside0 (Fr w wq (fun _ => False)) := ⟨by
    rw [← hwq]
    exact ((((Fr.refl w _).alloc _).alloc _).alloc _).alloc _⟩
  have HSq := Aside0.mk (hS.kept HFq.out (fun _ _ h => h))
  have HMq : Aside0 (MapIs Try.prog 3 wq (w.heap.size + 1) (cntI ns) (bvI fun _ => false)) := ⟨by
    rw [← hwq, bvI_none]
    have := MapIs.made (w.alloc (.cells #[.pointer (some ⟨S, 0, none⟩)] 26)) Try.prog 3
    rw [show (w.alloc (.cells #[.pointer (some ⟨S, 0, none⟩)] 26)).heap.size = w.heap.size + 1 by simp] at this
    exact ((this.alloc _).alloc _).mono (Nat.zero_le _)⟩
  have HVq : Aside0 (Vis wq S w.heap.size (w.heap.size + 1) (w.heap.size + 1 + 1) (w.heap.size + 1 + 1 + 1)) := ⟨by
    rw [← hwq]
    refine ⟨?_, ?_, ?_⟩
    · have h0 := blk_new w (.cells #[.pointer (some ⟨S, 0, none⟩)] 26)
      exact blk_alloc (blk_alloc (blk_alloc h0 _) _) _
    · have h0 := blk_new ((w.alloc (.cells #[.pointer (some ⟨S, 0, none⟩)] 26)).alloc (.map #[] 0)) (.cells #[.map (some (w.heap.size + 1))] 62)
      exact blk_alloc (by simpa using h0) _
    · have h0 := blk_new (((w.alloc (.cells #[.pointer (some ⟨S, 0, none⟩)] 26)).alloc (.map #[] 0)).alloc (.cells #[.map (some (w.heap.size + 1))] 62)) (.cells #[.func (.func 54) #[] #[.pointer (some ⟨w.heap.size + 1 + 1, 0, none⟩), .pointer (some ⟨w.heap.size + 1 + 1 + 1, 0, none⟩), .pointer (some ⟨w.heap.size, 0, none⟩)]] 73)
      simpa using h0⟩
  have HWQ := Aside0.mk hwq
  have hne : w.heap.size + 1 ≠ m := fun e => by have := hS.lt (k := m) (Or.inr (Or.inl rfl)); omega
  have he54 := enters54
  by_cases hv : validN ns id = true
  · obtain ⟨s, e1, hs⟩ := reach_visit hw hv
    have I1 := Aside0.mk (visit_calls _ ns _ s id S m w.heap.size (w.heap.size + 1) (w.heap.size + 1 + 1) (w.heap.size + 1 + 1 + 1) v full wq hw hv (by simp) e1 HSq.out HVq.out HMq.out hne)
    have HR : Aside0 (Marks ns id s) := ⟨fun x => by rw [hs x]; simp [hv]⟩
    have HQ := Aside0.mk hv
    have q3 := (blk_cell HVq.out.h3 0).trans (show _ = some _ from rfl)
    clear hw hS hv hs e1 hne hwq
    go_enter Try.func40, Try.ntmps40
    go_wp2_with (first | (go_at_call 44; rw [HWQ.out]; refine (validP_calls S m v ns full id wq HSq.out).mono ?_; rw [HQ.out]; rintro e w' ⟨rfl, rfl⟩) | (go_at_fn 54; refine I1.out.mono ?_; rintro e w2 ⟨rfl, hm, hf⟩; have q2 := (blk_cell (HVq.out.fr HMq.out hf).h2 0).trans (show _ = some _ from rfl); have HM := Aside0.mk hm; have HF := Aside0.mk hf; clear q3 hm hf))
    go_ret
    exact ⟨_, s, rfl, HR.out, HM.out, by omega, HFq.out.trans HF.out (fun j hj => .inr (by omega))⟩
  · have HR : Aside0 (Marks ns id (fun _ => false)) := ⟨fun x => by simp [hv]⟩
    have HQ : Aside0 (validN ns id = false) := ⟨by simpa using hv⟩
    have q2 := (blk_cell HVq.out.h2 0).trans (show _ = some _ from rfl)
    clear hw hS hv hne hwq
    go_enter Try.func40, Try.ntmps40
    go_wp2_with (go_at_call 44; rw [HWQ.out]; refine (validP_calls S m v ns full id wq HSq.out).mono ?_; rw [HQ.out]; rintro e w' ⟨rfl, rfl⟩)
    go_ret
    exact ⟨_, _, rfl, HR.out, HMq.out, by omega, HFq.out⟩
end Go.Proofs.Ytihikenmknphkaa.Q

namespace Go.Proofs.Ytihikenmknphkaa.Q
open Go Go.RowKit Go.Maps Go.Proofs.YtihikenmknphkaaW.PrintWords Go.Proofs.YtihikenmknphkaaW.PrintLast Go.Proofs.YtihikenmknphkaaW.PrintMore Go.Proofs.Ytihikenmknphkaa.M
set_option linter.unusedVariables false
set_option linter.unusedSimpArgs false

theorem countP_less {α : Type} {p q : α → Bool} (h : ∀ x, p x = true → q x = true) : ∀ {l : List α} {a : α}, a ∈ l → q a = true → p a = false → l.countP p + 1 ≤ l.countP q
  | b :: l, a, ha, hq, hp => by
    rw [List.countP_cons, List.countP_cons]
    rcases List.mem_cons.1 ha with rfl | ha
    · have := List.countP_mono_left (l := l) (p := p) (q := q) (fun x _ => h x)
      simp [hq, hp]
      omega
    · have := countP_less h ha hq hp
      have h2 : p b = true → q b = true := h b
      cases hpb : p b <;> cases hqb : q b <;> simp_all <;> omega
structure StI (ns : List N39) (a : Int) (s : SeenI) (o : List Int) : Prop where
  opn : ∀ x ∈ o, Rc ns a x
  sub : ∀ x, s x = true → Rc ns a x
  clo : ∀ x, s x = true → 0 ≤ x → (s (rd_T39 ns x).f1 = true ∨ (rd_T39 ns x).f1 ∈ o) ∧ (s (rd_T39 ns x).f2 = true ∨ (rd_T39 ns x).f2 ∈ o)
  hit : s a = true ∨ a ∈ o
def leftI (ns : List N39) (s : SeenI) (o : List Int) : Nat := 2 * (idsL ns).countP (fun x => !s x) + o.length
def fuelI (ns : List N39) : Nat := 2 * cntI ns + 2
theorem leftI_start (ns : List N39) (a : Int) : leftI ns (fun _ => false) [a] < fuelI ns := by
  have h1 := List.countP_le_length (p := fun _ : Int => !false) (l := idsL ns)
  have h2 : (idsL ns).length = cntI ns := by unfold idsL cntI; simp
  rw [h2] at h1
  show 2 * ((idsL ns).countP fun _ => !false) + 1 < 2 * cntI ns + 2
  omega
theorem leftI_mark {ns : List N39} {s : SeenI} {x : Int} (hx : validN ns x = true) (hs : s x = false) : (idsL ns).countP (fun y => !markI s x y) + 1 ≤ (idsL ns).countP (fun y => !s y) :=
  countP_less (fun y hy => by simp [markI] at hy; simp [hy.2]) (mem_idsL.2 hx) (by simp [hs]) (by simp [markI])
theorem StI.start (ns : List N39) (a : Int) : StI ns a (fun _ => false) [a] := ⟨fun x hx => by simp at hx; exact hx ▸ .refl, fun x h => (by cases h), fun x h => (by cases h), .inr (by simp)⟩
theorem StI.done {ns : List N39} {a : Int} {s : SeenI} (hv : validN ns a = true) (h : StI ns a s []) : Marks ns a s := by
  have key : ∀ x, Rc ns a x → s x = true := fun x hr => by
    induction hr with
    | refl => exact h.hit.resolve_right (by simp)
    | yes _ h0 ih => exact (h.clo _ ih h0).1.resolve_right (by simp)
    | no _ h0 ih => exact (h.clo _ ih h0).2.resolve_right (by simp)
  exact fun x => ⟨fun hx => ⟨hv, h.sub x hx⟩, fun hx => key x hx.2⟩
theorem mem_snoc_or {α : Type} {y x : α} {pre : List α} (h : y ∈ pre ++ [x]) : y = x ∨ y ∈ pre := by
  simp at h
  exact h.symm
theorem StI.seen {ns : List N39} {a x : Int} {s : SeenI} {pre : List Int} (h : StI ns a s (pre ++ [x])) (hx : s x = true) : StI ns a s pre := by
  have hr : ∀ {y : Int}, s y = true ∨ y ∈ pre ++ [x] → s y = true ∨ y ∈ pre := fun {y} e => by
    rcases e with e | e
    · exact .inl e
    · rcases mem_snoc_or e with e | e
      · exact .inl (e ▸ hx)
      · exact .inr e
  exact ⟨fun y hy => h.opn y (by simp [hy]), h.sub, fun y hy h0 => ⟨hr (h.clo y hy h0).1, hr (h.clo y hy h0).2⟩, hr h.hit⟩
theorem StI.leaf {ns : List N39} {a x : Int} {s : SeenI} {pre : List Int} (h : StI ns a s (pre ++ [x])) (hx : x < 0) : StI ns a (markI s x) pre := by
  have hr : ∀ {y : Int}, s y = true ∨ y ∈ pre ++ [x] → markI s x y = true ∨ y ∈ pre := fun {y} e => by
    rcases e with e | e
    · exact .inl (by simp [markI, e])
    · rcases mem_snoc_or e with e | e
      · exact .inl (by simp [markI, e])
      · exact .inr e
  refine ⟨fun y hy => h.opn y (by simp [hy]), fun y hy => ?_, fun y hy h0 => ?_, hr h.hit⟩
  · simp [markI] at hy
    rcases hy with e | e
    · exact h.opn y (by simp [e])
    · exact h.sub y e
  · simp [markI] at hy
    rcases hy with e | e
    · omega
    · exact ⟨hr (h.clo y e h0).1, hr (h.clo y e h0).2⟩
theorem StI.node {ns : List N39} {a x : Int} {s : SeenI} {pre : List Int} (h : StI ns a s (pre ++ [x])) (hx : 0 ≤ x) : StI ns a (markI s x) (pre ++ [(rd_T39 ns x).f1, (rd_T39 ns x).f2]) := by
  have hr : ∀ {y : Int}, s y = true ∨ y ∈ pre ++ [x] → markI s x y = true ∨ y ∈ pre ++ [(rd_T39 ns x).f1, (rd_T39 ns x).f2] := fun {y} e => by
    rcases e with e | e
    · exact .inl (by simp [markI, e])
    · rcases mem_snoc_or e with e | e
      · exact .inl (by simp [markI, e])
      · exact .inr (by simp [e])
  have hxr := h.opn x (by simp)
  refine ⟨fun y hy => ?_, fun y hy => ?_, fun y hy h0 => ?_, hr h.hit⟩
  · simp only [List.mem_append, List.mem_cons, List.not_mem_nil, or_false] at hy
    rcases hy with e | e | e
    · exact h.opn y (by simp [e])
    · exact e ▸ .yes hxr hx
    · exact e ▸ .no hxr hx
  · simp [markI] at hy
    rcases hy with e | e
    · exact e ▸ hxr
    · exact h.sub y e
  · simp [markI] at hy
    rcases hy with e | e
    · rw [e]; exact ⟨.inr (by simp), .inr (by simp)⟩
    · exact ⟨hr (h.clo y e h0).1, hr (h.clo y e h0).2⟩
/-! ### rows of numbers -/
theorem ints_lit (W : World) (base : Nat) (ok : Nat → Prop) (xs : List Int) (hb : base ≤ W.heap.size) (hok : ok W.heap.size) (hl : xs.length ≤ 1000000000) :
    Kd.R (Kd.int .i64) 3 (W.alloc (.cells (encs (Value.int .i64) xs).toArray 3)) base ok (.slice (some ⟨W.heap.size, 0, none⟩) xs.length xs.length) xs := by
  refine Kd.R_of_own ⟨by simp [encs], .inr ⟨W.heap.size, xs.length, _, rfl, hb, blk_new W _, Nat.le_refl _, by unfold maxLen; omega, by simp [encs], ?_⟩⟩ (fun k hk => ?_)
  · simp only [Nat.mul_one]
    rw [List.take_of_length_le (by simp [encs])]
  · simp [Value.ownBlock] at hk
    exact hk ▸ hok
theorem own_cut {w : World} {base g n cap : Nat} {e : TypeId} {xs ys : List Value} (h : w.ownsRow base e 1 (.slice (some ⟨g, 0, none⟩) n cap) n (xs ++ ys)) : w.ownsRow base e 1 (.slice (some ⟨g, 0, none⟩) xs.length cap) xs.length xs := by
  obtain ⟨hl, h⟩ := h
  rcases h with ⟨h, _⟩ | ⟨g', cap', cur, hv, hbase, hb, h1, h2, h3, h4⟩
  · cases h
  · cases hv
    refine ⟨by simp, .inr ⟨g, cap, cur, rfl, hbase, hb, ?_, h2, h3, ?_⟩⟩
    · simp at hl; omega
    · simp at hl h4 ⊢
      have h5 := congrArg (List.take xs.length) h4
      rw [List.take_take] at h5
      simpa [show min xs.length n = xs.length by omega] using h5
theorem R_cutI {w : World} {base : Nat} {ok : Nat → Prop} {A : Option Addr} {c n : Nat} {xs ys : List Int} (h : Kd.R (Kd.int .i64) 3 w base ok (.slice A n c) (xs ++ ys)) (hn : 0 < n) : Kd.R (Kd.int .i64) 3 w base ok (.slice A xs.length c) xs := by
  obtain ⟨g, cap, e, _⟩ := Kd.R_form h (by have := (Kd.R_reads' h).1; omega)
  cases e
  have h1 := Kd.own_of_R h
  have h2 := own_cut (xs := encs (Value.int .i64) xs) (ys := encs (Value.int .i64) ys) (by rw [← encs_append]; exact h1)
  refine Kd.R_of_own (by simpa [encs] using h2) h.1
end Go.Proofs.Ytihikenmknphkaa.Q

namespace Go.Proofs.Ytihikenmknphkaa.Q
open Go Go.RowKit Go.Maps Go.Proofs.YtihikenmknphkaaW.PrintWords Go.Proofs.YtihikenmknphkaaW.PrintLast Go.Proofs.YtihikenmknphkaaW.PrintMore Go.Proofs.Ytihikenmknphkaa.M
set_option linter.unusedVariables false
set_option linter.unusedSimpArgs false

theorem info3 : (Try.prog.info? 3).map (fun i => (i.zero, i.size, i.bytes)) = some (some (.int .i64 0), 1, 8) := by kernel_rfl
set_option maxRecDepth 100000 in
set_option maxHeartbeats 4000000 in
theorem reachR_calls (ns : List N39) (id : Int) (S m : Nat) (v : Value) (full : Bool) (w : World) (hw : WF ns) (hS : StAt 67 w S m v ns full) (hv : validN ns id = true) :
    Calls Try.prog 43 #[.pointer (some ⟨S, 0, none⟩), .int .i64 id] w fun e w' => ∃ s : SeenI, e = .returned (.map (some w.heap.size)) ∧ Marks ns id s ∧ MapIs Try.prog 3 w' w.heap.size (cntI ns) (bvI s) ∧ Below w.heap.size w w' := by
  have hmm := @run_makeMap Try.prog
  have HW := Aside0.mk hw
  have HS := Aside0.mk hS
  have HV := Aside0.mk hv
  have hln := hS.len
  clear hw hS hv
  go_enter Try.func43, Try.ntmps43
  go_wp2
  generalize hwq : ((w.alloc (.map #[] 0)).alloc (.cells #[.int .i64 id] 3)) = wq
  have HO0 : Aside0 (Kd.R (Kd.int .i64) 3 wq w.heap.size (fun k => k ≠ w.heap.size) (.slice (some ⟨w.heap.size + 1, 0, none⟩) 1 1) [id]) := ⟨by
    rw [← hwq]
    have := ints_lit (w.alloc (.map #[] 0)) w.heap.size (fun k => k ≠ w.heap.size) [id] (by simp) (by simp) (by simp)
    rw [show (w.alloc (.map #[] 0)).heap.size = w.heap.size + 1 by simp] at this
    exact this⟩
  have HM0 : Aside0 (MapIs Try.prog 3 wq w.heap.size (cntI ns) (bvI fun _ => false)) := ⟨by
    rw [← hwq, bvI_none]
    exact ((MapIs.made w Try.prog 3).alloc _).mono (Nat.zero_le _)⟩
  have HB0 : Aside0 (Below w.heap.size w wq) := ⟨by rw [← hwq]; exact ((Below.refl _ _).alloc (Nat.le_refl _) _).alloc (by simp) _⟩
  clear hwq
  go_loopg [6] (fuelI ns) (fun kq v6 wr => ∃ (op : List Int) (s : SeenI), Aside0 (StI ns id s op) ∧ Aside0 (leftI ns s op < kq ∧ kq ≤ fuelI ns) ∧ Aside0 (MapIs Try.prog 3 wr w.heap.size (cntI ns) (bvI s)) ∧ Aside0 (Kd.R (Kd.int .i64) 3 wr w.heap.size (fun k => k ≠ w.heap.size) v6 op) ∧ Aside0 (Below w.heap.size w wr))
  case atStart => exact ⟨[id], fun _ => false, ⟨StI.start ns id⟩, ⟨leftI_start ns id, Nat.le_refl _⟩, HM0, HO0, HB0⟩
  case round =>
    clear HM0 HO0 HB0
    obtain ⟨op, s, HT, HLF, HM, HO, HB⟩ := hrel
    obtain ⟨A6, c6, e6⟩ := Kd.R_slice HO.out
    subst e6
    obtain ⟨k1, rfl⟩ : ∃ k1, gk = k1 + 1 := ⟨gk - 1, by have := HLF.out; omega⟩
    rcases List.eq_nil_or_concat op with rfl | ⟨pre, x, hop⟩
    · have hd := Aside0.mk (StI.done HV.out HT.out)
      go_wp2
      go_ret
      exact ⟨s, rfl, hd.out, HM.out, HB.out⟩
    · have hop : op = pre ++ [x] := by simpa using hop
      subst hop
      obtain ⟨ad6, e, hcx⟩ := Kd.at_int (Kd.R_reads' HO.out).2.2 (pre.length : Int) (by omega) (by simp; omega)
      cases e
      have hxe : rd (pre ++ [x]) (pre.length : Int) = x := by simp [rd]
      rw [hxe] at hcx
      have hlen : (pre ++ [x]).length = pre.length + 1 := by simp
      have HPL : Aside0 (pre.length ≤ 2 * cntI ns + 2) := ⟨by have h1 := HLF.out; unfold leftI fuelI at h1; simp at h1; omega⟩
      have hpl : pre.length ≤ 100000 := by have := HPL.out; unfold cntI at this; omega
      have HP : Aside0 (Kd.R (Kd.int .i64) 3 wr w.heap.size (fun k => k ≠ w.heap.size) (.slice (some ad6) pre.length c6) pre) := ⟨R_cutI HO.out (by simp)⟩
      have hc6 : pre.length ≤ c6 := (Kd.R_reads' HP.out).2.1
      have hxv : validN ns x = true := ((HT.out.opn x (by simp)).valid HW.out HV.out).1
      have hxl := valid_lt hxv
      have HKI := Aside0.mk (keyI (okI_of (a := x) (by omega) (by omega)))
      have HQ := Aside0.mk (bvI_get s x)
      have HDM : Aside0 (∀ y, markI s x y = true → validN ns y = true) := ⟨fun y hy => by
        simp [markI] at hy
        rcases hy with e | e
        · rw [e]; exact hxv
        · exact ((HT.out.sub y e).valid HW.out HV.out).1⟩
      have HXV := Aside0.mk hxv
      rw [hlen]
      clear hxe hlen hxv
      simp only [Int.toNat_natCast] at hcx
      cases hsx : s x with
      | true =>
        have HQ2 : Aside0 ((bvI s (kI x)).getD (.bool false) = .bool true) := ⟨by rw [HQ.out, hsx]⟩
        have HT2 := Aside0.mk (HT.out.seen hsx)
        have HL2 : Aside0 (leftI ns s pre < k1 ∧ k1 ≤ fuelI ns) := ⟨by have h1 := HLF.out; unfold leftI at h1 ⊢; simp at h1; omega⟩
        clear hsx HQ
        go_wp2_with (at_lookup; refine lookup_one _ rfl _ _ 62 rfl 3 4 K3i Try.underlying62 _ (zero4 _) w.heap.size _ (bvI s) rfl HM.out (.int .i64 x) (kI x) rfl HKI.out ?_; rw [HQ2.out])
        go_roundg k1
        case measure => omega
        case rel => exact ⟨pre, s, HT2, HL2, HM, HP, HB⟩
      | false =>
        have HQ2 : Aside0 ((bvI s (kI x)).getD (.bool false) = .bool false) := ⟨by rw [HQ.out, hsx]⟩
        have HLM := Aside0.mk (leftI_mark HXV.out hsx)
        clear hsx HQ
        by_cases h0 : x < 0
        · have d0 : decide (0 ≤ x) = false := by simp; omega
          have HT2 := Aside0.mk (HT.out.leaf h0)
          have HL2 : Aside0 (leftI ns (markI s x) pre < k1 ∧ k1 ≤ fuelI ns) := ⟨by have h1 := HLF.out; have h2 := HLM.out; unfold leftI at h1 ⊢; simp at h1; omega⟩
          go_wp2_with (first | (at_lookup; refine lookup_one _ rfl _ _ 62 rfl 3 4 K3i Try.underlying62 _ (zero4 _) w.heap.size _ (bvI s) rfl HM.out (.int .i64 x) (kI x) rfl HKI.out ?_; rw [HQ2.out]) | (at_mapUpdate; refine store_one _ rfl _ _ _ 62 (Or.inl rfl) 3 4 K3i Try.underlying62 w.heap.size _ (bvI s) rfl HM.out (by unfold cntI maxLen; omega) (.int .i64 x) (.bool true) (kI x) rfl rfl HKI.out ?_; intro w3 hm3 hg3 hz3; rw [bvI_mark] at hm3; have HM3 := Aside0.mk (bvI_bound hm3 HDM.out); have HG3 := Aside0.mk hg3; clear hm3 hg3 hz3))
          go_roundg k1
          case measure => omega
          case rel => exact ⟨pre, _, HT2, HL2, HM3, ⟨Kd.R_grown HP.out HG3.out (fun q hq e => hq (by injection e))⟩, ⟨HB.out.grown HG3.out HB.out.size (fun q hq => by cases hq; exact Nat.le_refl _)⟩⟩
        · have hp : 0 ≤ x := by omega
          have d0 : decide (0 ≤ x) = true := by simpa using hp
          have HT2 := Aside0.mk (HT.out.node hp)
          have HL2 : Aside0 (leftI ns (markI s x) (pre ++ [(rd_T39 ns x).f1, (rd_T39 ns x).f2]) < k1 ∧ k1 ≤ fuelI ns) := ⟨by have h1 := HLF.out; have h2 := HLM.out; unfold leftI at h1 ⊢; simp at h1 ⊢; omega⟩
          obtain ⟨A, c, ev⟩ := Kd.R_slice HS.out.row
          subst ev
          obtain ⟨ad, e, _, hx1, hx2⟩ := at_T39 (Kd.R_reads' HS.out.row).2.2 x hp hxl.2
          cases e
          have q0 := Aside0.mk HS.out.cell0
          have q1 := Aside0.mk hx1
          have q2 := Aside0.mk hx2
          generalize (rd_T39 ns x).f1 = x1 at q1 HT2 HL2
          generalize (rd_T39 ns x).f2 = x2 at q2 HT2 HL2
          clear hx1 hx2
          go_wp2_with (first | (at_lookup; refine lookup_one _ rfl _ _ 62 rfl 3 4 K3i Try.underlying62 _ (zero4 _) w.heap.size _ (bvI s) rfl HM.out (.int .i64 x) (kI x) rfl HKI.out ?_; rw [HQ2.out]) | (at_mapUpdate; refine store_one _ rfl _ _ _ 62 (Or.inl rfl) 3 4 K3i Try.underlying62 w.heap.size _ (bvI s) rfl HM.out (by unfold cntI maxLen; omega) (.int .i64 x) (.bool true) (kI x) rfl rfl HKI.out ?_; intro w3 hm3 hg3 hz3; rw [bvI_mark] at hm3; have HM3 := Aside0.mk (bvI_bound hm3 HDM.out); have HG3 := Aside0.mk hg3; clear hm3 hg3 hz3))
          have HO3 : Aside0 (Kd.R (Kd.int .i64) 3 w3 w.heap.size (fun k => k ≠ w.heap.size) (.slice (some ad6) pre.length c6) pre) := ⟨Kd.R_grown HP.out HG3.out (fun q hq e => hq (by injection e))⟩
          have HB3 : Aside0 (Below w.heap.size w w3) := ⟨HB.out.grown HG3.out HB.out.size (fun q hq => by cases hq; exact Nat.le_refl _)⟩
          have HB4 : Aside0 (Below w.heap.size w (w3.drew.alloc (.cells #[.int .i64 x1, .int .i64 x2] 3))) := ⟨(below_drew1 HB3.out).alloc HB3.out.size _⟩
          have HSZ : Aside0 (w.heap.size < w3.heap.size) := ⟨HM3.out.lt⟩
          have HSZ4 := Aside0.mk HB4.out.size
          have HSZ5 : Aside0 (w.heap.size < (w3.drew.alloc (.cells #[.int .i64 x1, .int .i64 x2] 3)).heap.size) := ⟨Nat.lt_of_lt_of_le (show w.heap.size < w3.drew.heap.size from HSZ.out) ((Below.refl w3.drew.heap.size w3.drew).alloc (Nat.le_refl _) _).size⟩
          have HLIT : Aside0 (ReadsRow ((Kd.int .i64).K (w3.drew.alloc (.cells #[.int .i64 x1, .int .i64 x2] 3))) (Kd.int .i64).sz (w3.drew.alloc (.cells #[.int .i64 x1, .int .i64 x2] 3)) (some ⟨w3.drew.heap.size, 0, none⟩) 2 [x1, x2]) := ⟨(Kd.R_reads' (ints_lit w3.drew 0 (fun _ => True) [x1, x2] (Nat.zero_le _) trivial (by simp))).2.2⟩
          have qS3 := (HB3.out.cell (World.block_lt_of_cell? w _ q0.out)).trans q0.out
          have qx1 := (HB3.out.cell (World.block_lt_of_cell? w _ q1.out)).trans q1.out
          have qx2 := (HB3.out.cell (World.block_lt_of_cell? w _ q2.out)).trans q2.out
          clear hcx HM HO HP HB
          refine start_ (n := 20) (S := fun w' => w'.cell? ⟨S, 0, none⟩ = some (.slice (some ad) ns.length c) ∧ w'.cell? ⟨(ad.add (x.toNat * 3)).block, (ad.add (x.toNat * 3)).off + 1, none⟩ = some (.int .i64 x1) ∧ w'.cell? ⟨(ad.add (x.toNat * 3)).block, (ad.add (x.toNat * 3)).off + 2, none⟩ = some (.int .i64 x2)) (ds := []) #[false, false, false, false, false, false, false, false, false, false, false, false, false, false, false, false, false, false, false, false] (by kernel_rfl) rfl rfl ⟨qS3, qx1, qx2⟩ (fun hHeld => ?_)
          refine pure_ (i := 0) (N := some 32) (v := ?_) (a' := ?_) #[true, false, false, false, false, false, false, false, false, false, false, false, false, false, false, false, false, false, false, false] rfl rfl (by kernel_rfl) (fun _ _ _ h => h) (Or.inl ⟨by rfl, ?_⟩) ?_ ?_
          rotate_left
          · intro w'
            go_simp
            with_reducible rfl
          rotate_left
          · simp only [Act.put, List.setIfInBounds_toArray, List.set_cons_zero, List.set_cons_succ, i64_w, i32_w]
            rfl
          refine pure_ (i := 1) (N := some 33) (v := ?_) (a' := ?_) #[true, true, false, false, false, false, false, false, false, false, false, false, false, false, false, false, false, false, false, false] rfl rfl (by kernel_rfl) (fun _ _ _ h => h) (Or.inl ⟨by rfl, ?_⟩) ?_ ?_
          rotate_left
          · intro w'
            go_simp
            with_reducible rfl
          rotate_left
          · simp only [Act.put, List.setIfInBounds_toArray, List.set_cons_zero, List.set_cons_succ, i64_w, i32_w]
            rfl
          refine pure_ (i := 2) (N := some 34) (v := ?_) (a' := ?_) #[true, true, true, false, false, false, false, false, false, false, false, false, false, false, false, false, false, false, false, false] rfl rfl (by kernel_rfl) (fun _ _ _ h => h) (Or.inl ⟨by rfl, ?_⟩) ?_ ?_
          rotate_left
          · intro w'
            go_simp
            with_reducible rfl
          rotate_left
          · simp only [Act.put, List.setIfInBounds_toArray, List.set_cons_zero, List.set_cons_succ, i64_w, i32_w]
            rfl
          refine pure_ (i := 3) (N := some 35) (v := ?_) (a' := ?_) #[true, true, true, true, false, false, false, false, false, false, false, false, false, false, false, false, false, false, false, false] rfl rfl (by kernel_rfl) (fun _ _ _ h => h) (Or.inl ⟨by rfl, ?_⟩) ?_ ?_
          rotate_left
          · intro w'
            go_simp
            with_reducible rfl
          rotate_left
          · simp only [Act.put, List.setIfInBounds_toArray, List.set_cons_zero, List.set_cons_succ, i64_w, i32_w]
            rfl
          refine take_ (i := 4) (N := some 36) (v := ?_) (a' := ?_) #[true, true, true, true, true, false, false, false, false, false, false, false, false, false, false, false, false, false, false, false] rfl rfl (by kernel_rfl) (fun _ _ _ h => h) (Or.inl ⟨by rfl, ?_⟩) hHeld ?_ ?_
          rotate_left
          · rintro w' ⟨s0, s1, s2⟩
            go_simp
            with_reducible rfl
          rotate_left
          · simp only [Act.put, List.setIfInBounds_toArray, List.set_cons_zero, List.set_cons_succ, i64_w, i32_w]
            rfl
          refine pure_ (i := 5) (N := some 37) (v := ?_) (a' := ?_) #[true, true, true, true, true, true, false, false, false, false, false, false, false, false, false, false, false, false, false, false] rfl rfl (by kernel_rfl) (fun _ _ _ h => h) (Or.inl ⟨by rfl, ?_⟩) ?_ ?_
          rotate_left
          · intro w'
            go_simp
            with_reducible rfl
          rotate_left
          · simp only [Act.put, List.setIfInBounds_toArray, List.set_cons_zero, List.set_cons_succ, i64_w, i32_w]
            rfl
          refine pure_ (i := 6) (N := some 38) (v := ?_) (a' := ?_) #[true, true, true, true, true, true, true, false, false, false, false, false, false, false, false, false, false, false, false, false] rfl rfl (by kernel_rfl) (fun _ _ _ h => h) (Or.inl ⟨by rfl, ?_⟩) ?_ ?_
          rotate_left
          · intro w'
            go_simp
            with_reducible rfl
          rotate_left
          · simp only [Act.put, List.setIfInBounds_toArray, List.set_cons_zero, List.set_cons_succ, i64_w, i32_w]
            rfl
          refine pure_ (i := 7) (N := some 39) (v := ?_) (a' := ?_) #[true, true, true, true, true, true, true, true, false, false, false, false, false, false, false, false, false, false, false, false] rfl rfl (by kernel_rfl) (fun _ _ _ h => h) (Or.inl ⟨by rfl, ?_⟩) ?_ ?_
          rotate_left
          · intro w'
            go_simp
            with_reducible rfl
          rotate_left
          · simp only [Act.put, List.setIfInBounds_toArray, List.set_cons_zero, List.set_cons_succ, i64_w, i32_w]
            rfl
          refine take_ (i := 8) (N := some 40) (v := ?_) (a' := ?_) #[true, true, true, true, true, true, true, true, true, false, false, false, false, false, false, false, false, false, false, false] rfl rfl (by kernel_rfl) (fun _ _ _ h => h) (Or.inl ⟨by rfl, ?_⟩) hHeld ?_ ?_
          rotate_left
          · rintro w' ⟨s0, s1, s2⟩
            go_simp
            with_reducible rfl
          rotate_left
          · simp only [Act.put, List.setIfInBounds_toArray, List.set_cons_zero, List.set_cons_succ, i64_w, i32_w]
            rfl
          refine pure_ (i := 9) (N := some 41) (v := ?_) (a' := ?_) #[true, true, true, true, true, true, true, true, true, true, false, false, false, false, false, false, false, false, false, false] rfl rfl (by kernel_rfl) (fun _ _ _ h => h) (Or.inl ⟨by rfl, ?_⟩) ?_ ?_
          rotate_left
          · intro w'
            go_simp
            with_reducible rfl
          rotate_left
          · simp only [Act.put, List.setIfInBounds_toArray, List.set_cons_zero, List.set_cons_succ, i64_w, i32_w]
            rfl
          refine pure_ (i := 10) (N := some 42) (v := ?_) (a' := ?_) #[true, true, true, true, true, true, true, true, true, true, true, false, false, false, false, false, false, false, false, false] rfl rfl (by kernel_rfl) (fun _ _ _ h => h) (Or.inl ⟨by rfl, ?_⟩) ?_ ?_
          rotate_left
          · intro w'
            go_simp
            with_reducible rfl
          rotate_left
          · simp only [Act.put, List.setIfInBounds_toArray, List.set_cons_zero, List.set_cons_succ, i64_w, i32_w]
            rfl
          refine pure_ (i := 11) (N := some 43) (v := ?_) (a' := ?_) #[true, true, true, true, true, true, true, true, true, true, true, true, false, false, false, false, false, false, false, false] rfl rfl (by kernel_rfl) (fun _ _ _ h => h) (Or.inl ⟨by rfl, ?_⟩) ?_ ?_
          rotate_left
          · intro w'
            go_simp
            with_reducible rfl
          rotate_left
          · simp only [Act.put, List.setIfInBounds_toArray, List.set_cons_zero, List.set_cons_succ, i64_w, i32_w]
            rfl
          refine take_ (i := 12) (N := some 44) (v := ?_) (a' := ?_) #[true, true, true, true, true, true, true, true, true, true, true, true, true, false, false, false, false, false, false, false] rfl rfl (by kernel_rfl) (fun _ _ _ h => h) (Or.inl ⟨by rfl, ?_⟩) hHeld ?_ ?_
          rotate_left
          · rintro w' ⟨s0, s1, s2⟩
            go_simp
            with_reducible rfl
          rotate_left
          · simp only [Act.put, List.setIfInBounds_toArray, List.set_cons_zero, List.set_cons_succ, i64_w, i32_w]
            rfl
          refine pure_ (i := 13) (N := some 45) (v := ?_) (a' := ?_) #[true, true, true, true, true, true, true, true, true, true, true, true, true, true, false, false, false, false, false, false] rfl rfl (by kernel_rfl) (fun _ _ _ h => h) (Or.inl ⟨by rfl, ?_⟩) ?_ ?_
          rotate_left
          · intro w'
            go_simp
            with_reducible rfl
          rotate_left
          · simp only [Act.put, List.setIfInBounds_toArray, List.set_cons_zero, List.set_cons_succ, i64_w, i32_w]
            rfl
          refine pure_ (i := 14) (N := some 46) (v := ?_) (a' := ?_) #[true, true, true, true, true, true, true, true, true, true, true, true, true, true, true, false, false, false, false, false] rfl rfl (by kernel_rfl) (fun _ _ _ h => h) (Or.inl ⟨by rfl, ?_⟩) ?_ ?_
          rotate_left
          · intro w'
            go_simp
            with_reducible rfl
          rotate_left
          · simp only [Act.put, List.setIfInBounds_toArray, List.set_cons_zero, List.set_cons_succ, i64_w, i32_w]
            rfl
          refine pure_ (i := 15) (N := some 47) (v := ?_) (a' := ?_) #[true, true, true, true, true, true, true, true, true, true, true, true, true, true, true, true, false, false, false, false] rfl rfl (by kernel_rfl) (fun _ _ _ h => h) (Or.inl ⟨by rfl, ?_⟩) ?_ ?_
          rotate_left
          · intro w'
            go_simp
            with_reducible rfl
          rotate_left
          · simp only [Act.put, List.setIfInBounds_toArray, List.set_cons_zero, List.set_cons_succ, i64_w, i32_w]
            rfl
          refine take_ (i := 16) (N := some 48) (v := ?_) (a' := ?_) #[true, true, true, true, true, true, true, true, true, true, true, true, true, true, true, true, true, false, false, false] rfl rfl (by kernel_rfl) (fun _ _ _ h => h) (Or.inl ⟨by rfl, ?_⟩) hHeld ?_ ?_
          rotate_left
          · rintro w' ⟨s0, s1, s2⟩
            go_simp
            with_reducible rfl
          rotate_left
          · simp only [Act.put, List.setIfInBounds_toArray, List.set_cons_zero, List.set_cons_succ, i64_w, i32_w]
            rfl
          refine one_ (i := 17) (N := some 49) #[true, true, true, true, true, true, true, true, true, true, true, true, true, true, true, true, true, true, false, false] rfl rfl (by kernel_rfl) (by decide) (fun K hK => ?_)
          refine event_step (v := .slice (some ⟨w3.drew.heap.size, 0, none⟩) 2 2) (w1 := w3.drew.alloc (.cells #[.int .i64 x1, .int .i64 x2] 3)) rfl (by first | (go_simp; done) | (go_simp; rfl)) ?_
          have HA9 : Below w3.drew.heap.size w3.drew (w3.drew.alloc (.cells #[.int .i64 x1, .int .i64 x2] 3)) := (Below.refl _ _).alloc (Nat.le_refl _) _
          refine hK.out _ _ ⟨(HA9.cell (World.block_lt_of_cell? w3.drew _ hHeld.1)).trans hHeld.1, (HA9.cell (World.block_lt_of_cell? w3.drew _ hHeld.2.1)).trans hHeld.2.1, (HA9.cell (World.block_lt_of_cell? w3.drew _ hHeld.2.2)).trans hHeld.2.2⟩ (fun hHeld2 => ?_)
          clear hK K
          refine norm_ (a' := ?_) ?_ ?_
          rotate_left
          · show Act.put _ (some 49) _ = _
            simp only [Act.put, List.setIfInBounds_toArray, List.set_cons_zero, List.set_cons_succ, i64_w, i32_w]
            rfl
          refine one_ (i := 18) (N := some 50) #[true, true, true, true, true, true, true, true, true, true, true, true, true, true, true, true, true, true, true, false] rfl rfl (by kernel_rfl) (by decide) (fun K hK => ?_)
          refine Kd.R_append_rows_step (Kd.int .i64) (w0 := w) w.heap.size (by rfl) (.tmp 32) (.tmp 49) 35 3 (.int .i64 0) 8 rfl Try.underlying35 info3 rfl (by decide) (by omega) (.slice (some ad6) pre.length c6) pre [x1, x2] (some ⟨w3.drew.heap.size, 0, none⟩) 2 2 (fun k => k ≠ w.heap.size) (fun _ => False) rfl rfl (Kd.R_alloc (Kd.R_drew HO3.out) _) HLIT.out (fun _ _ h => h) (fun _ h => h.elim) (fun k hk => by have := HSZ5.out; omega) HB4.out (HSZ4.out) (by omega) ?_
          intro v1 w4 ho hb hg hat
          have HM4 := Aside0.mk (MapIs.kept (MapIs.alloc (MapIs.drew HM3.out) (.cells #[.int .i64 x1, .int .i64 x2] 3)) hg (fun e => (HO3.out.1 _ e.symm) rfl))
          have HO4 := Aside0.mk ho
          have HB5 := Aside0.mk hb
          refine hK.out _ _ ⟨(hb.cell (World.block_lt_of_cell? w _ q0.out)).trans q0.out, (hb.cell (World.block_lt_of_cell? w _ q1.out)).trans q1.out, (hb.cell (World.block_lt_of_cell? w _ q2.out)).trans q2.out⟩ (fun hHeld3 => ?_)
          clear ho hb hg hat
          clear hK K
          refine norm_ (a' := ?_) ?_ ?_
          rotate_left
          · show Act.put _ (some 50) _ = _
            simp only [Act.put, List.setIfInBounds_toArray, List.set_cons_zero, List.set_cons_succ, i64_w, i32_w]
            rfl
          refine pure_ (i := 19) (N := some 6) (v := ?_) (a' := ?_) #[true, true, true, true, true, true, true, true, true, true, true, true, true, true, true, true, true, true, true, true] rfl rfl (by kernel_rfl) (fun _ _ _ h => h) (Or.inl ⟨by rfl, ?_⟩) ?_ ?_
          rotate_left
          · intro w'
            go_simp
            with_reducible rfl
          rotate_left
          · simp only [Act.put, List.setIfInBounds_toArray, List.set_cons_zero, List.set_cons_succ, i64_w, i32_w]
            rfl
          refine done_ (by kernel_rfl) ?_
          go_wp2
          go_roundg k1
          case measure => omega
          case rel => exact ⟨_, _, HT2, HL2, HM4, HO4, HB5⟩
end Go.Proofs.Ytihikenmknphkaa.Q

namespace Go.Proofs.Ytihikenmknphkaa.Q
open Go Go.RowKit Go.Maps Go.Proofs.YtihikenmknphkaaW.PrintWords Go.Proofs.YtihikenmknphkaaW.PrintLast Go.Proofs.YtihikenmknphkaaW.PrintMore Go.Proofs.Ytihikenmknphkaa.M
set_option linter.unusedVariables false
set_option linter.unusedSimpArgs false

theorem kI_same (x y : Int) : (kI x).sameKey (kI y) = true ↔ x = y := by
  constructor
  · intro h
    revert h
    unfold kI
    simp [Lit.sameKey]
  · rintro rfl
    exact WideAt.sameKey_self trivial
theorem kI_inv {key : Value} {kl : Lit} (h : keyOf Try.prog 3 key = some kl) : ∃ x, key = .int .i64 x := by
  obtain ⟨x, e, _, _⟩ := Maps.keyOf_int_inv Try.underlying3 h
  exact ⟨x, e⟩
theorem kI_key {x : Int} {kl : Lit} (h : keyOf Try.prog 3 (.int .i64 x) = some kl) : kl = kI x := by
  obtain ⟨y, e, e2, _⟩ := Maps.keyOf_int_inv Try.underlying3 h
  cases e
  exact e2
/-- what has been met while a map of marks is ranged over -/
structure GotI (s : SeenI) (lft : Lit → Bool) (out : List Int) : Prop where
  nodup : out.Nodup
  mem : ∀ x, x ∈ out ↔ (s x = true ∧ lft (kI x) = false)
  lftIn : ∀ x, lft (kI x) = true → s x = true
theorem bvI_at (s : SeenI) (x : Int) : bvI s (kI x) = if s x then some (.bool true) else none := rfl
theorem GotI.start {s : SeenI} {D : DataW Value} (h : Tells D (bvI s)) : GotI s (Maps.has D) [] := by
  have e : ∀ x, Maps.has D (kI x) = s x := by
    intro x
    rw [tells_has h, bvI_at]
    cases s x <;> rfl
  refine ⟨by simp, fun x => ?_, fun x => by rw [e]; exact id⟩
  rw [e]
  cases s x <;> simp
theorem GotI.next {s : SeenI} {lft : Lit → Bool} {out : List Int} (h : GotI s lft out) {x : Int} (hx : lft (kI x) = true) : GotI s (fun z => lft z && !z.sameKey (kI x)) (out ++ [x]) := by
  have hn : x ∉ out := fun hm => by have := ((h.mem x).1 hm).2; rw [hx] at this; cases this
  refine ⟨?_, fun y => ?_, fun y hy => h.lftIn y (by simp at hy; exact hy.1)⟩
  · rw [List.nodup_append]
    refine ⟨h.nodup, by simp, fun a ha b hb => ?_⟩
    simp at hb
    rintro rfl
    exact hn (hb ▸ ha)
  · rw [List.mem_append, h.mem y, List.mem_singleton]
    by_cases e : y = x
    · subst e
      simp [h.lftIn y hx, (kI_same y y).2 rfl]
    · have : (kI y).sameKey (kI x) = false := by
        cases hc : (kI y).sameKey (kI x) with
        | false => rfl
        | true => exact absurd ((kI_same y x).1 hc) e
      simp [e, this]
theorem Marks.valid {ns : List N39} (hw : WF ns) {id x : Int} {s : SeenI} (h : Marks ns id s) (hx : s x = true) : validN ns x = true := by
  obtain ⟨h1, h2⟩ := (h x).1 hx
  exact (h2.valid hw h1).1
theorem GotI.length {ns : List N39} (hw : WF ns) {id : Int} {s : SeenI} {lft : Lit → Bool} {out : List Int} (h : GotI s lft out) (hm : Marks ns id s) : out.length ≤ cntI ns := by
  have := nodup_le (S := idsL ns) h.nodup (fun x hx => mem_idsL.2 (hm.valid hw ((h.mem x).1 hx).1))
  have e : (idsL ns).length = cntI ns := by unfold idsL cntI; simp
  omega
theorem idsL_nodup (ns : List N39) : (idsL ns).Nodup := by
  unfold idsL
  rw [List.Nodup, List.pairwise_map]
  exact List.nodup_range.imp (fun hab he => hab (by omega))
/-- Two lists, each once, with the same members of a kind: they hold as many. -/
theorem count_same {α : Type} {l k : List α} (hl : l.Nodup) (hk : k.Nodup) {p q : α → Bool} (h : ∀ x, (x ∈ l ∧ p x = true) ↔ (x ∈ k ∧ q x = true)) : l.countP p = k.countP q := by
  rw [List.countP_eq_length_filter, List.countP_eq_length_filter]
  have h1 := nodup_le (l := l.filter p) (S := k.filter q) (hl.filter _) (fun x hx => List.mem_filter.2 ((h x).1 (List.mem_filter.1 hx)))
  have h2 := nodup_le (l := k.filter q) (S := l.filter p) (hk.filter _) (fun x hx => List.mem_filter.2 ((h x).2 (List.mem_filter.1 hx)))
  omega
open Classical in
/-- how many nodes a diagram contains -/
noncomputable def sizeF (ns : List N39) (id : Int) : Nat := (idsL ns).countP fun x => decide (0 ≤ x ∧ validN ns id = true ∧ Rc ns id x)
theorem GotI.size {ns : List N39} (hw : WF ns) {id : Int} {s : SeenI} {lft : Lit → Bool} {out : List Int} (h : GotI s lft out) (hm : Marks ns id s) (hl : ∀ kl, lft kl = false) : out.countP (fun x => decide (0 ≤ x)) = sizeF ns id := by
  refine count_same h.nodup (idsL_nodup ns) (fun x => ?_)
  rw [h.mem, hm x, mem_idsL]
  simp only [decide_eq_true_eq, hl, and_true]
  constructor
  · rintro ⟨⟨h1, h2⟩, h3⟩
    exact ⟨(h2.valid hw h1).1, h3, h1, h2⟩
  · rintro ⟨_, h3, h1, h2⟩
    exact ⟨⟨h1, h2⟩, h3⟩
theorem sizeF_invalid {ns : List N39} {id : Int} (h : validN ns id = false) : sizeF ns id = 0 := by
  unfold sizeF
  simp [h]
theorem count_snoc (out : List Int) (x : Int) : (out ++ [x]).countP (fun x => decide (0 ≤ x)) = out.countP (fun x => decide (0 ≤ x)) + (if 0 ≤ x then 1 else 0) := by
  rw [List.countP_append]
  simp [List.countP_cons]

set_option maxHeartbeats 2000000 in
theorem sizeP_calls (ns : List N39) (id : Int) (S m : Nat) (v : Value) (full : Bool) (w : World) (hw : WF ns) (hS : StAt 58 w S m v ns full) (ho : okI id) :
    Calls Try.prog 15 #[.pointer (some ⟨S, 0, none⟩), .int .i64 id] w fun e w' => e = .returned (.int .i64 (sizeF ns id)) ∧ Fr w w' (fun _ => False) := by
  have HW := Aside0.mk hw
  have HS := Aside0.mk hS
  have hln := hS.len
  have HO := Aside0.mk ho
  clear hw hS ho
  go_enter Try.func15, Try.ntmps15
  go_wp2_with (first | (go_at_call 40; refine (reachP_calls ns id S m v full w HW.out HS.out HO.out).mono ?_; rintro e w2 ⟨b1, s, rfl, hm, ⟨D, hd, ht⟩, hb, hf⟩; have HM := Aside0.mk hm; have HD := Aside0.mk hd; have HT := Aside0.mk ht; have HF := Aside0.mk hf; have HSZ := Aside0.mk hf.size; clear hm hd ht hb hf) | (at_range; refine wpList_range_own _ rfl _ 62 rfl 3 4 K3i Try.underlying62 mpR _ _ D rfl HD.out ?_; intro w0 hrg0 hg0 hs0; have HR0 := Aside0.mk hrg0; have HG0 := Aside0.mk hg0; clear hrg0 hg0 hs0))
  go_frame
  have HBR : Aside0 (b1 < w2.heap.size) := ⟨HD.out.lt⟩
  have HF2 : Aside0 (Fr w w0 (fun _ => False)) := ⟨HF.out.trans (Fr.of_grown HG0.out) (fun j hj => (by cases hj))⟩
  clear HD HG0 HF
  have HR := Aside0.mk (show w.heap.size ≤ w2.heap.size from HSZ.out)
  generalize w2.heap.size = R at HR0 HBR HR ⊢
  have HGT := Aside0.mk (GotI.start HT.out)
  clear HT HSZ
  go_loopw [5] (fun v5 wr => ∃ (lft : Lit → Bool) (cnt : Nat) (out : List Int), v5 = .int .i64 ((out.countP fun x => decide (0 ≤ x) : Nat) : Int) ∧ Aside0 (wr.ranges Try.prog 3 mpR b1 R (cntI ns) D lft cnt) ∧ Aside0 (GotI s lft out) ∧ Aside0 (Fr w wr (fun _ => False))) (fun _ wr => wr.rangeLeft b1 R)
  case atStart => exact ⟨_, _, [], rfl, HR0, HGT, HF2⟩
  case round =>
    clear HR0 HGT HF2
    obtain ⟨lft, cnt, out, rfl, HRG, HG, HF⟩ := hrel
    have HLN : Aside0 (out.length ≤ cntI ns) := ⟨HG.out.length HW.out HM.out⟩
    have hcl : (out.countP fun x => decide (0 ≤ x)) ≤ 100000 := by have h1 := HLN.out; have h2 := List.countP_le_length (p := fun x : Int => decide (0 ≤ x)) (l := out); unfold cntI at h1; omega
    have HCS := Aside0.mk (count_snoc out)
    have HSF : Aside0 ((∀ kl, lft kl = false) → (out.countP fun x => decide (0 ≤ x)) = sizeF ns id) := ⟨fun h => HG.out.size HW.out HM.out h⟩
    generalize hct : (out.countP fun x => decide (0 ≤ x)) = ct at hcl HCS HSF ⊢
    clear hct
    go_wp2_with (at_next; refine wpList_next_ranges _ rfl _ rfl 3 K3i mpR (Value.int .i64) (fun v => v) (fun key kl hk => kI_inv hk) (fun v y _ => ⟨v, rfl⟩) b1 R (cntI ns) D _ _ rfl HRG.out ?_ ?_)
    · intro hc0 hl0
      have HE := Aside0.mk (HSF.out hl0)
      clear hc0 hl0
      go_wp2
      go_ret
      exact ⟨by rw [HE.out]; rfl, HF.out⟩
    · intro x v kl y y2 w4 cnt4 hkey hlft hv hat hrg4 hlt hg4 hz4 hen
      have hkx := kI_key hkey
      subst hkx
      have HG5 := Aside0.mk (HG.out.next hlft)
      have HRG4 := Aside0.mk hrg4
      have HF4 : Aside0 (Fr w w4 (fun _ => False)) := ⟨HF.out.trans (Fr.of_grown hg4) (fun j hj => .inr (by injection hj with hj; rw [← hj]; exact HR.out))⟩
      have HLT := Aside0.mk hlt
      have HLE := Aside0.mk HRG.out.left_eq
      have HCX := Aside0.mk (HCS.out x)
      clear hkey hlft hv hat hrg4 hlt hg4 hz4 HG HF HCS HSF HLN
      by_cases hx : 0 ≤ x
      · have hd : decide (0 ≤ x) = true := by simpa using hx
        go_wp2
        go_roundw
        case rel => exact ⟨_, _, _, by rw [HCX.out, if_pos hx]; rfl, HRG4, HG5, HF4⟩
        case measure => rw [HRG4.out.left_eq, HLE.out]; exact HLT.out
      · have hd : decide (0 ≤ x) = false := by simpa using hx
        go_wp2
        go_roundw
        case rel => exact ⟨_, _, _, by rw [HCX.out, if_neg hx]; rfl, HRG4, HG5, HF4⟩
        case measure => rw [HRG4.out.left_eq, HLE.out]; exact HLT.out


set_option maxHeartbeats 2000000 in
theorem sizeR_calls (ns : List N39) (id : Int) (S m : Nat) (v : Value) (full : Bool) (w : World) (hw : WF ns) (hS : StAt 67 w S m v ns full) (ho : okI id) :
    Calls Try.prog 16 #[.pointer (some ⟨S, 0, none⟩), .int .i64 id] w fun e w' => e = .returned (.int .i64 (sizeF ns id)) ∧ Fr w w' (fun _ => False) := by
  have HW := Aside0.mk hw
  have HS := Aside0.mk hS
  have hln := hS.len
  clear hw hS
  cases hv : validN ns id with
  | false =>
    have HE := Aside0.mk (sizeF_invalid hv)
    have HV := Aside0.mk hv
    clear hv
    go_enter Try.func16, Try.ntmps16
    go_wp2_with (go_at_call 42; refine (validR_calls S m v ns full id w HS.out).mono ?_; rw [HV.out]; rintro e w' ⟨rfl, rfl⟩)
    go_ret
    exact ⟨by rw [HE.out]; rfl, Fr.refl _ _⟩
  | true =>
  have HV := Aside0.mk hv
  clear hv
  obtain ⟨b1, hb1⟩ : ∃ b1, w.heap.size = b1 := ⟨_, rfl⟩
  have HB1 := Aside0.mk hb1
  clear hb1
  go_enter Try.func16, Try.ntmps16
  go_wp2_with (first | (go_at_call 42; refine (validR_calls S m v ns full id w HS.out).mono ?_; rw [HV.out]; rintro e w' ⟨rfl, rfl⟩) | (go_at_call 43; refine (reachR_calls ns id S m v full w HW.out HS.out HV.out).mono ?_; rw [HB1.out]; rintro e w2 ⟨s, rfl, hm, ⟨D, hd, ht⟩, hbb⟩; have hf : Fr w w2 (fun _ => False) := Fr.of_below (by rw [HB1.out]; exact hbb) _; have HM := Aside0.mk hm; have HD := Aside0.mk hd; have HT := Aside0.mk ht; have HF := Aside0.mk hf; have HSZ := Aside0.mk hf.size; clear hm hd ht hbb hf) | (at_range; refine wpList_range_own _ rfl _ 62 rfl 3 4 K3i Try.underlying62 mpR _ _ D rfl HD.out ?_; intro w0 hrg0 hg0 hs0; have HR0 := Aside0.mk hrg0; have HG0 := Aside0.mk hg0; clear hrg0 hg0 hs0))
  go_frame
  have HBR : Aside0 (b1 < w2.heap.size) := ⟨HD.out.lt⟩
  have HF2 : Aside0 (Fr w w0 (fun _ => False)) := ⟨HF.out.trans (Fr.of_grown HG0.out) (fun j hj => (by cases hj))⟩
  clear HD HG0 HF
  have HR := Aside0.mk (show w.heap.size ≤ w2.heap.size from HSZ.out)
  generalize w2.heap.size = R at HR0 HBR HR ⊢
  have HGT := Aside0.mk (GotI.start HT.out)
  clear HT HSZ
  go_loopw [5] (fun v5 wr => ∃ (lft : Lit → Bool) (cnt : Nat) (out : List Int), v5 = .int .i64 ((out.countP fun x => decide (0 ≤ x) : Nat) : Int) ∧ Aside0 (wr.ranges Try.prog 3 mpR b1 R (cntI ns) D lft cnt) ∧ Aside0 (GotI s lft out) ∧ Aside0 (Fr w wr (fun _ => False))) (fun _ wr => wr.rangeLeft b1 R)
  case atStart => exact ⟨_, _, [], rfl, HR0, HGT, HF2⟩
  case round =>
    clear HR0 HGT HF2
    obtain ⟨lft, cnt, out, rfl, HRG, HG, HF⟩ := hrel
    have HLN : Aside0 (out.length ≤ cntI ns) := ⟨HG.out.length HW.out HM.out⟩
    have hcl : (out.countP fun x => decide (0 ≤ x)) ≤ 100000 := by have h1 := HLN.out; have h2 := List.countP_le_length (p := fun x : Int => decide (0 ≤ x)) (l := out); unfold cntI at h1; omega
    have HCS := Aside0.mk (count_snoc out)
    have HSF : Aside0 ((∀ kl, lft kl = false) → (out.countP fun x => decide (0 ≤ x)) = sizeF ns id) := ⟨fun h => HG.out.size HW.out HM.out h⟩
    generalize hct : (out.countP fun x => decide (0 ≤ x)) = ct at hcl HCS HSF ⊢
    clear hct
    go_wp2_with (at_next; refine wpList_next_ranges _ rfl _ rfl 3 K3i mpR (Value.int .i64) (fun v => v) (fun key kl hk => kI_inv hk) (fun v y _ => ⟨v, rfl⟩) b1 R (cntI ns) D _ _ rfl HRG.out ?_ ?_)
    · intro hc0 hl0
      have HE := Aside0.mk (HSF.out hl0)
      clear hc0 hl0
      go_wp2
      go_ret
      exact ⟨by rw [HE.out]; rfl, HF.out⟩
    · intro x v kl y y2 w4 cnt4 hkey hlft hv hat hrg4 hlt hg4 hz4 hen
      have hkx := kI_key hkey
      subst hkx
      have HG5 := Aside0.mk (HG.out.next hlft)
      have HRG4 := Aside0.mk hrg4
      have HF4 : Aside0 (Fr w w4 (fun _ => False)) := ⟨HF.out.trans (Fr.of_grown hg4) (fun j hj => .inr (by injection hj with hj; rw [← hj]; exact HR.out))⟩
      have HLT := Aside0.mk hlt
      have HLE := Aside0.mk HRG.out.left_eq
      have HCX := Aside0.mk (HCS.out x)
      clear hkey hlft hv hat hrg4 hlt hg4 hz4 HG HF HCS HSF HLN
      by_cases hx : 0 ≤ x
      · have hd : decide (0 ≤ x) = true := by simpa using hx
        go_wp2
        go_roundw
        case rel => exact ⟨_, _, _, by rw [HCX.out, if_pos hx]; rfl, HRG4, HG5, HF4⟩
        case measure => rw [HRG4.out.left_eq, HLE.out]; exact HLT.out
      · have hd : decide (0 ≤ x) = false := by simpa using hx
        go_wp2
        go_roundw
        case rel => exact ⟨_, _, _, by rw [HCX.out, if_neg hx]; rfl, HRG4, HG5, HF4⟩
        case measure => rw [HRG4.out.left_eq, HLE.out]; exact HLT.out

end Go.Proofs.Ytihikenmknphkaa.Q

namespace Go.Proofs.Ytihikenmknphkaa.Q
open Go Go.RowKit Go.Maps Go.Proofs.YtihikenmknphkaaW.PrintWords Go.Proofs.YtihikenmknphkaaW.PrintLast Go.Proofs.YtihikenmknphkaaW.PrintMore Go.Proofs.Ytihikenmknphkaa.M
set_option linter.unusedVariables false
set_option linter.unusedSimpArgs false

open Classical in
/-- what a diagram contains, as marks -/
noncomputable def rcB (ns : List N39) (id : Int) : SeenI := fun x => decide (validN ns id = true ∧ Rc ns id x)
open Classical in
theorem Marks.eq {ns : List N39} {id : Int} {s : SeenI} (h : Marks ns id s) : s = rcB ns id := by
  funext x
  have := h x
  unfold rcB
  cases hs : s x with
  | true => exact (decide_eq_true (this.1 hs)).symm
  | false => exact (decide_eq_false (fun e => by rw [this.2 e] at hs; cases hs)).symm
/-- the leaves below n that are marked -/
def leavesU (s : SeenI) (n : Nat) : List Int := ((List.range n).filter fun (i : Nat) => s (-1 - (i : Int))).map fun (i : Nat) => (i : Int)
theorem leavesU_succ (s : SeenI) (n : Nat) : leavesU s (n + 1) = leavesU s n ++ (if s (-1 - (n : Int)) then [(n : Int)] else []) := by
  unfold leavesU
  rw [List.range_succ, List.filter_append, List.map_append]
  cases h : s (-1 - (n : Int)) <;> simp [h]
theorem leavesU_length (s : SeenI) (n : Nat) : (leavesU s n).length ≤ n := by
  unfold leavesU
  rw [List.length_map]
  have := List.length_filter_le (fun (i : Nat) => s (-1 - (i : Int))) (List.range n)
  simpa using this
theorem mem_leavesU {s : SeenI} {n : Nat} {x : Int} : x ∈ leavesU s n ↔ 0 ≤ x ∧ x < n ∧ s (-1 - x) = true := by
  unfold leavesU
  rw [List.mem_map]
  constructor
  · rintro ⟨i, hi, rfl⟩
    rw [List.mem_filter, List.mem_range] at hi
    exact ⟨by omega, by omega, hi.2⟩
  · rintro ⟨h0, h1, h2⟩
    refine ⟨x.toNat, ?_, by omega⟩
    rw [List.mem_filter, List.mem_range]
    exact ⟨by omega, by simpa [Int.toNat_of_nonneg h0] using h2⟩
/-- the leaves that a diagram contains -/
noncomputable def leavesF (ns : List N39) (id : Int) : List Int := leavesU (rcB ns id) 1001
theorem leavesF_invalid {ns : List N39} {id : Int} (h : validN ns id = false) : leavesF ns id = [] := by
  have : rcB ns id = fun _ => false := by funext x; simp [rcB, h]
  unfold leavesF leavesU
  rw [this]
  simp
set_option maxHeartbeats 2000000 in
theorem leavesR_calls (ns : List N39) (id : Int) (S m : Nat) (v : Value) (full : Bool) (w : World) (hw : WF ns) (hS : StAt 67 w S m v ns full) :
    Calls Try.prog 14 #[.pointer (some ⟨S, 0, none⟩), .int .i64 id] w fun e w' => ∃ v', e = .returned v' ∧ Kd.R (Kd.int .i64) 3 w' w.heap.size (fun _ => True) v' (leavesF ns id) ∧ Fr w w' (fun _ => False) := by
  have HW := Aside0.mk hw
  have HS := Aside0.mk hS
  have hln := hS.len
  clear hw hS
  cases hv : validN ns id with
  | false =>
    have HE := Aside0.mk (leavesF_invalid hv)
    have HV := Aside0.mk hv
    clear hv
    go_enter Try.func14, Try.ntmps14
    go_wp2_with (go_at_call 42; refine (validR_calls S m v ns full id w HS.out).mono ?_; rw [HV.out]; rintro e w' ⟨rfl, rfl⟩)
    go_ret
    exact ⟨_, rfl, by rw [HE.out]; exact Kd.R_nil _ _ _ _ _, Fr.refl _ _⟩
  | true =>
  have HV := Aside0.mk hv
  clear hv
  obtain ⟨b1, hb1⟩ : ∃ b1, w.heap.size = b1 := ⟨_, rfl⟩
  have HB1 := Aside0.mk hb1
  clear hb1
  go_enter Try.func14, Try.ntmps14
  go_wp2_with (first | (go_at_call 42; refine (validR_calls S m v ns full id w HS.out).mono ?_; rw [HV.out]; rintro e w' ⟨rfl, rfl⟩) | (go_at_call 43; refine (reachR_calls ns id S m v full w HW.out HS.out HV.out).mono ?_; rw [HB1.out]; rintro e w2 ⟨s, rfl, hm, hd, hbb⟩; have HM := Aside0.mk hm.eq; have HD := Aside0.mk hd; have HB := Aside0.mk hbb; clear hm hd hbb))
  go_loopw [6, 7] (fun v6 v7 wr => ∃ (n : Nat), v7 = .int .i64 (n : Int) ∧ Aside0 (n ≤ 1001) ∧ Aside0 (MapIs Try.prog 3 wr b1 (cntI ns) (bvI s)) ∧ Aside0 (Kd.R (Kd.int .i64) 3 wr b1 (fun k => k ≠ b1) v6 (leavesU s n)) ∧ Aside0 (Below b1 w wr)) (fun _ v7 _ => 1002 - (intOf v7).toNat)
  case atStart => exact ⟨0, rfl, ⟨by omega⟩, HD, ⟨Kd.R_nil _ _ _ _ _⟩, HB⟩
  case round =>
    clear HD HB
    obtain ⟨n, rfl, HN, HD, HO, HB⟩ := hrel
    have hn := HN.out
    by_cases h1 : n = 1001
    · subst h1
      have HE : Aside0 (leavesU s 1001 = leavesF ns id) := ⟨by rw [HM.out]; rfl⟩
      go_wp2
      go_ret
      exact ⟨_, rfl, by rw [← HE.out, HB1.out]; exact Kd.R_mono HO.out (fun _ _ => trivial), Fr.of_below (by rw [HB1.out]; exact HB.out) _⟩
    · have hle : decide ((n : Int) ≤ 1000) = true := by simp; omega
      have HSU := Aside0.mk (leavesU_succ s n)
      have HLL := Aside0.mk (leavesU_length s n)
      have HKI := Aside0.mk (keyI (okI_of (a := -1 - (n : Int)) (by omega) (by omega)))
      have HQ := Aside0.mk (bvI_get s (-1 - (n : Int)))
      cases hs : s (-1 - (n : Int)) with
      | true =>
        have HQ2 : Aside0 ((bvI s (kI (-1 - (n : Int)))).getD (.bool false) = .bool true) := ⟨by rw [HQ.out, hs]⟩
        have HST : Aside0 (leavesU s (n + 1) = leavesU s n ++ [(n : Int)]) := ⟨by rw [HSU.out, hs]; rfl⟩
        clear hs HQ HSU
        go_wp2_with (first | (at_lookup; refine lookup_one _ rfl _ _ 62 rfl 3 4 K3i Try.underlying62 _ (zero4 _) b1 _ (bvI s) rfl HD.out (.int .i64 (-1 - (n : Int))) (kI (-1 - (n : Int))) rfl HKI.out ?_; rw [HQ2.out]) | (at_builtin; refine Kd.R_append (Kd.int .i64) (w0 := w) b1 rfl (.tmp 23) (.tmp 25) 35 3 (.int .i64 0) 8 rfl Try.underlying35 info3 rfl (by decide) (by omega) u6 (leavesU s n) (n : Int) [.int .i64 (n : Int)] (fun k => k ≠ b1) (fun _ => False) rfl ?aX ?aP (fun _ hk => hk.elim) ?aF ?aO ?aB ?aS ?aL ?_))
        case aX => first | rfl | (go_simp; done)
        case aP => rfl
        case aF => intro q hq; have h1 := HD.out.lt; omega
        case aO => exact HO.out
        case aB => exact HB.out
        case aS => have := HB.out.size; have := HB1.out; omega
        case aL => have h1 := HLL.out; omega
        intro v1 w5 ho hb hg hat
        have HD5 := Aside0.mk (MapIs.kept HD.out hg (fun e => (HO.out.1 _ e.symm) rfl))
        have HO5 := Aside0.mk ho
        have HB5 := Aside0.mk hb
        clear ho hb hg hat
        go_wp2
        go_roundw
        case rel => exact ⟨n + 1, by simp, ⟨by omega⟩, HD5, ⟨by rw [HST.out]; exact HO5.out⟩, HB5⟩
        case measure => simp [intOf]; omega
      | false =>
        have HQ2 : Aside0 ((bvI s (kI (-1 - (n : Int)))).getD (.bool false) = .bool false) := ⟨by rw [HQ.out, hs]⟩
        have HST : Aside0 (leavesU s (n + 1) = leavesU s n) := ⟨by rw [HSU.out, hs]; simp⟩
        clear hs HQ HSU
        go_wp2_with (at_lookup; refine lookup_one _ rfl _ _ 62 rfl 3 4 K3i Try.underlying62 _ (zero4 _) b1 _ (bvI s) rfl HD.out (.int .i64 (-1 - (n : Int))) (kI (-1 - (n : Int))) rfl HKI.out ?_; rw [HQ2.out])
        go_roundw
        case rel => exact ⟨n + 1, by simp, ⟨by omega⟩, HD, ⟨by rw [HST.out]; exact HO.out⟩, HB⟩
        case measure => simp [intOf]; omega
end Go.Proofs.Ytihikenmknphkaa.Q
