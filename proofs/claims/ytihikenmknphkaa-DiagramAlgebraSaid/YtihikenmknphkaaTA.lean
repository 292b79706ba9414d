/-
  Diagrams, plainly: what a diagram comes to under truth values; two diagrams of one function are one. No condition.
  Diagrams, plainly: choose over tests below 6 has a value, adds few nodes, and stands for its function. No condition.
  Diagrams: each operation has a result, the same in both stores, with its function. No condition beyond those that stand in each.
-/
import Derived.Test.YtihikenmknphkaaVA
import Derived.Test.YtihikenmknphkaaKA
namespace Go.Proofs.Ytihikenmknphkaa.Q
open Go Go.RowKit Go.Maps Go.Proofs.YtihikenmknphkaaW.PrintWords Go.Proofs.YtihikenmknphkaaW.PrintLast Go.Proofs.YtihikenmknphkaaW.PrintMore Go.Proofs.Ytihikenmknphkaa.M
set_option linter.unusedVariables false
set_option linter.unusedSimpArgs false

/-- truth values of tests -/
abbrev Env := Int → Bool
def evF (ns : List N39) (e : Env) : Nat → Int → Int
  | 0, id => -1 - id
  | k + 1, id => if id < 0 then -1 - id else evF ns e k (if e (rd_T39 ns id).f0 then (rd_T39 ns id).f1 else (rd_T39 ns id).f2)
/-- the leaf that a diagram comes to -/
def ev (ns : List N39) (e : Env) (id : Int) : Int := evF ns e (id + 1).toNat id
theorem evF_neg {ns : List N39} {e : Env} {k : Nat} {id : Int} (h : id < 0) : evF ns e k id = -1 - id := by
  cases k with
  | zero => rfl
  | succ k => unfold evF; rw [if_pos h]
theorem evF_fuel {ns : List N39} (hw : WF ns) (e : Env) : ∀ (k k' : Nat) (id : Int), validN ns id = true → id < k → id < k' → evF ns e k id = evF ns e k' id
  | 0, k', id, hv, h, h' => by rw [evF_neg (by omega), evF_neg (by omega)]
  | k + 1, 0, id, hv, h, h' => by rw [evF_neg (by omega), evF_neg (by omega)]
  | k + 1, k' + 1, id, hv, h, h' => by
    by_cases h0 : id < 0
    · rw [evF_neg h0, evF_neg h0]
    · have hp : 0 ≤ id := by omega
      have hy := hw.way hp hv
      have hv2 := hw.ways hp hv
      unfold evF
      rw [if_neg h0, if_neg h0]
      cases e (rd_T39 ns id).f0 with
      | true => exact evF_fuel hw e k k' _ hv2.1 (by simp; omega) (by simp; omega)
      | false => exact evF_fuel hw e k k' _ hv2.2 (by simp; omega) (by simp; omega)
theorem ev_leaf {ns : List N39} {e : Env} {id : Int} (h : id < 0) : ev ns e id = -1 - id := evF_neg h
theorem ev_node {ns : List N39} (hw : WF ns) {e : Env} {id : Int} (hv : validN ns id = true) (h0 : 0 ≤ id) : ev ns e id = ev ns e (if e (rd_T39 ns id).f0 then (rd_T39 ns id).f1 else (rd_T39 ns id).f2) := by
  have hy := hw.way h0 hv
  have hv2 := hw.ways h0 hv
  obtain ⟨n, rfl⟩ : ∃ n : Nat, id = n := ⟨id.toNat, by omega⟩
  have e1 : ((n : Int) + 1).toNat = n + 1 := by omega
  show evF ns e ((n : Int) + 1).toNat n = evF ns e _ _
  rw [e1]
  conv => lhs; unfold evF
  rw [if_neg (by omega)]
  cases e (rd_T39 ns n).f0 with
  | true => exact evF_fuel hw e _ _ _ hv2.1 (by simp; omega) (by simp; omega)
  | false => exact evF_fuel hw e _ _ _ hv2.2 (by simp; omega) (by simp; omega)
theorem ev_app {ns ms : List N39} (hw : WF ns) (hw2 : WF (ns ++ ms)) (e : Env) : ∀ (k : Nat) (id : Int), id < k → validN ns id = true → ev (ns ++ ms) e id = ev ns e id
  | 0, id, hk, hv => by rw [ev_leaf (by omega), ev_leaf (by omega)]
  | k + 1, id, hk, hv => by
    by_cases h0 : id < 0
    · rw [ev_leaf h0, ev_leaf h0]
    · have hp : 0 ≤ id := by omega
      rw [ev_node hw2 (valid_app hv) hp, ev_node hw hv hp, rd_app (valid_lt hv).2 hp]
      have hy := hw.way hp hv
      have hv2 := hw.ways hp hv
      cases e (rd_T39 ns id).f0 with
      | true => exact ev_app hw hw2 e k _ (by simp; omega) hv2.1
      | false => exact ev_app hw hw2 e k _ (by simp; omega) hv2.2
theorem ev_grow {ns ms : List N39} (hw : WF ns) (hw2 : WF (ns ++ ms)) (e : Env) {id : Int} (hv : validN ns id = true) : ev (ns ++ ms) e id = ev ns e id := ev_app hw hw2 e (id + 1).toNat id (by omega) hv
/-- tests of a node and its ways -/
theorem WF.tops {ns : List N39} (h : WF ns) {x : Int} (h0 : 0 ≤ x) (hx : validN ns x = true) : topN ns x = (rd_T39 ns x).f0 ∧ (rd_T39 ns x).f0 < topN ns (rd_T39 ns x).f1 ∧ (rd_T39 ns x).f0 < topN ns (rd_T39 ns x).f2 ∧ (rd_T39 ns x).f1 ≠ (rd_T39 ns x).f2 := by
  obtain ⟨hi, e⟩ := rd_int39 h0 (valid_lt hx).2
  refine ⟨by unfold topN; rw [if_neg (by omega)], ?_⟩
  rw [e]
  have := h.nd _ hi
  exact this.2.2.2
/-- a diagram looks at no test below its own -/
theorem ev_same {ns : List N39} (hw : WF ns) : ∀ (k : Nat) (id : Int) (e e' : Env), id < k → validN ns id = true → (∀ t, topN ns id ≤ t → e t = e' t) → ev ns e id = ev ns e' id
  | 0, id, e, e', hk, hv, _ => by rw [ev_leaf (by omega), ev_leaf (by omega)]
  | k + 1, id, e, e', hk, hv, he => by
    by_cases h0 : id < 0
    · rw [ev_leaf h0, ev_leaf h0]
    · have hp : 0 ≤ id := by omega
      have hy := hw.way hp hv
      have hv2 := hw.ways hp hv
      have ht := hw.tops hp hv
      rw [ev_node hw hv hp, ev_node hw hv hp, ← he (rd_T39 ns id).f0 (by omega)]
      cases e (rd_T39 ns id).f0 with
      | true => exact ev_same hw k _ e e' (by simp; omega) hv2.1 (fun t h => he t (by simp at h; omega))
      | false => exact ev_same hw k _ e e' (by simp; omega) hv2.2 (fun t h => he t (by simp at h; omega))
def envPut (e : Env) (t : Int) (b : Bool) : Env := fun x => if x = t then b else e x
theorem envPut_at (e : Env) (t : Int) (b : Bool) : envPut e t b t = b := by simp [envPut]
theorem ev_put {ns : List N39} (hw : WF ns) {id : Int} (hv : validN ns id = true) {t : Int} (ht : t < topN ns id) (e : Env) (b : Bool) : ev ns (envPut e t b) id = ev ns e id :=
  ev_same hw (id + 1).toNat id _ _ (by omega) hv (fun x hx => by simp [envPut]; intro h; omega)
theorem ev_cof {ns : List N39} (hw : WF ns) {id : Int} (hv : validN ns id = true) (t : Int) (ht : t < 1001) (e : Env) : ev ns e (if e t then (cofN ns id t).1 else (cofN ns id t).2) = ev ns e id := by
  unfold cofN
  by_cases h : topN ns id = t
  · rw [if_pos h]
    have h0 : 0 ≤ id := by
      unfold topN at h
      split at h <;> omega
    rw [ev_node hw hv h0]
    have : (rd_T39 ns id).f0 = t := by rw [← h]; exact (hw.tops h0 hv).1.symm
    rw [this]
  · rw [if_neg h]
    simp
/-- the diagrams of one function are one -/
theorem canon {ns : List N39} (hw : WF ns) : ∀ (k : Nat) (x y : Int), x < k → y < k → validN ns x = true → validN ns y = true → (∀ e, ev ns e x = ev ns e y) → x = y
  | 0, x, y, hx, hy, _, _, h => by
    have := h (fun _ => false)
    rw [ev_leaf (by omega), ev_leaf (by omega)] at this
    omega
  | k + 1, x, y, hx, hy, vx, vy, h => by
    have key : ∀ (x y : Int), x < (k + 1 : Nat) → y < (k + 1 : Nat) → validN ns x = true → validN ns y = true → (∀ e, ev ns e x = ev ns e y) → topN ns x < topN ns y → False := by
      intro x y hx hy vx vy h ht
      have h0 : 0 ≤ x := by
        by_cases h1 : x < 0
        · have e1 : topN ns x = 1001 := by unfold topN; rw [if_pos h1]
          have := hw.top_range (valid_lt vy).2
          omega
        · omega
      have hw1 := hw.way h0 vx
      have hw2 := hw.ways h0 vx
      have hw3 := hw.tops h0 vx
      refine hw3.2.2.2 (canon hw k _ _ (by omega) (by omega) hw2.1 hw2.2 fun e => ?_)
      have a1 := h (envPut e (topN ns x) true)
      have a2 := h (envPut e (topN ns x) false)
      rw [ev_put hw vy ht, ev_node hw vx h0, ← hw3.1, envPut_at, if_pos rfl, ev_put hw hw2.1 (by omega)] at a1
      rw [ev_put hw vy ht, ev_node hw vx h0, ← hw3.1, envPut_at, if_neg (by simp), ev_put hw hw2.2 (by omega)] at a2
      rw [a1, a2]
    by_cases h1 : topN ns x < topN ns y
    · exact (key x y hx hy vx vy h h1).elim
    by_cases h2 : topN ns y < topN ns x
    · exact (key y x hy hx vy vx (fun e => (h e).symm) h2).elim
    have ht : topN ns x = topN ns y := by omega
    have hneg : ∀ z, validN ns z = true → 0 ≤ z → topN ns z ≤ 1000 := fun z vz h0 => by
      obtain ⟨hi, e⟩ := rd_int39 h0 (valid_lt vz).2
      unfold topN
      rw [if_neg (by omega), e]
      exact (hw.nd _ hi).1.2
    by_cases hx0 : x < 0
    · have hy0 : y < 0 := by
        by_cases h3 : y < 0
        · exact h3
        · have := hneg y vy (by omega)
          have e1 : topN ns x = 1001 := by unfold topN; rw [if_pos hx0]
          omega
      have := h (fun _ => false)
      rw [ev_leaf hx0, ev_leaf hy0] at this
      omega
    · have hy0 : 0 ≤ y := by
        by_cases h3 : y < 0
        · have := hneg x vx (by omega)
          have e1 : topN ns y = 1001 := by unfold topN; rw [if_pos h3]
          omega
        · omega
      have hxp : 0 ≤ x := by omega
      have a1 := hw.way hxp vx
      have a2 := hw.ways hxp vx
      have a3 := hw.tops hxp vx
      have b1 := hw.way hy0 vy
      have b2 := hw.ways hy0 vy
      have b3 := hw.tops hy0 vy
      have et : (rd_T39 ns x).f0 = (rd_T39 ns y).f0 := by omega
      have ey : (rd_T39 ns x).f1 = (rd_T39 ns y).f1 := canon hw k _ _ (by omega) (by omega) a2.1 b2.1 fun e => by
        have c := h (envPut e (topN ns x) true)
        rw [ev_node hw vx hxp, ev_node hw vy hy0, ← et, ← a3.1, envPut_at, if_pos rfl, if_pos rfl, ev_put hw a2.1 (by omega), ev_put hw b2.1 (by omega)] at c
        exact c
      have en : (rd_T39 ns x).f2 = (rd_T39 ns y).f2 := canon hw k _ _ (by omega) (by omega) a2.2 b2.2 fun e => by
        have c := h (envPut e (topN ns x) false)
        rw [ev_node hw vx hxp, ev_node hw vy hy0, ← et, ← a3.1, envPut_at, if_neg (by simp), if_neg (by simp), ev_put hw a2.2 (by omega), ev_put hw b2.2 (by omega)] at c
        exact c
      obtain ⟨hi, e1⟩ := rd_int39 hxp (valid_lt vx).2
      obtain ⟨hj, e2⟩ := rd_int39 hy0 (valid_lt vy).2
      have e3 : ns[x.toNat] = ns[y.toNat] := by
        rw [← e1, ← e2]
        generalize rd_T39 ns x = a at *
        generalize rd_T39 ns y = b at *
        cases a; cases b
        simp at et ey en
        simp [et, ey, en]
      have := (List.getElem_inj hw.once).1 e3
      omega
theorem canonical {ns : List N39} (hw : WF ns) {x y : Int} (vx : validN ns x = true) (vy : validN ns y = true) (h : ∀ e, ev ns e x = ev ns e y) : x = y :=
  canon hw (x.toNat + y.toNat + 1) x y (by omega) (by omega) vx vy h
/-- what is contained is come to -/
theorem Rc.env {ns : List N39} (hw : WF ns) {a x : Int} (ha : validN ns a = true) (h : Rc ns a x) : ∃ e0 : Env, ∀ e : Env, (∀ t, t < topN ns x → e t = e0 t) → ev ns e a = ev ns e x := by
  induction h with
  | refl => exact ⟨fun _ => false, fun e _ => rfl⟩
  | yes hr h0 ih =>
    rename_i x
    obtain ⟨e0, he⟩ := ih
    have hv := (hr.valid hw ha).1
    have ht := hw.tops h0 hv
    refine ⟨envPut e0 (topN ns x) true, fun e h => ?_⟩
    have e1 : e (rd_T39 ns x).f0 = true := by rw [h _ ht.2.1, ← ht.1, envPut_at]
    rw [he e (fun t hlt => by rw [h t (by omega)]; simp [envPut]; intro; omega), ev_node hw hv h0, e1, if_pos rfl]
  | no hr h0 ih =>
    rename_i x
    obtain ⟨e0, he⟩ := ih
    have hv := (hr.valid hw ha).1
    have ht := hw.tops h0 hv
    refine ⟨envPut e0 (topN ns x) false, fun e h => ?_⟩
    have e1 : e (rd_T39 ns x).f0 = false := by rw [h _ ht.2.2.1, ← ht.1, envPut_at]
    rw [he e (fun t hlt => by rw [h t (by omega)]; simp [envPut]; intro; omega), ev_node hw hv h0, e1, if_neg (by simp)]
theorem ev_in {ns : List N39} (hw : WF ns) (e : Env) : ∀ (k : Nat) (id : Int), id < k → validN ns id = true → ∃ x, Rc ns id x ∧ x < 0 ∧ ev ns e id = -1 - x
  | 0, id, hk, hv => ⟨id, .refl, by omega, ev_leaf (by omega)⟩
  | k + 1, id, hk, hv => by
    by_cases h0 : id < 0
    · exact ⟨id, .refl, h0, ev_leaf h0⟩
    · have hp : 0 ≤ id := by omega
      have hy := hw.way hp hv
      have hv2 := hw.ways hp hv
      rw [ev_node hw hv hp]
      cases e (rd_T39 ns id).f0 with
      | true =>
        obtain ⟨x, a, b, c⟩ := ev_in hw e k (rd_T39 ns id).f1 (by omega) hv2.1
        exact ⟨x, (Rc.yes .refl hp).trans a, b, c⟩
      | false =>
        obtain ⟨x, a, b, c⟩ := ev_in hw e k (rd_T39 ns id).f2 (by omega) hv2.2
        exact ⟨x, (Rc.no .refl hp).trans a, b, c⟩
/-- the function of a condition -/
def Cd (ns : List N39) (f : Int) : Prop := ∀ e, ev ns e f = 0 ∨ ev ns e f = 1
theorem Cd.leaf {ns : List N39} {f : Int} (h : Cd ns f) (h0 : f < 0) : f = -1 ∨ f = -2 := by
  have := h (fun _ => false)
  rw [ev_leaf h0] at this
  omega
theorem Cd.cof {ns : List N39} (hw : WF ns) {f t : Int} (hv : validN ns f = true) (h : Cd ns f) (ht : t ≤ topN ns f) (ht2 : t < 1001) : Cd ns (cofN ns f t).1 ∧ Cd ns (cofN ns f t).2 := by
  obtain ⟨v1, v2, t1, t2⟩ := hw.cof hv ht ht2
  refine ⟨fun e => ?_, fun e => ?_⟩
  · have := ev_cof hw hv t ht2 (envPut e t true)
    rw [envPut_at, if_pos rfl, ev_put hw v1 t1] at this
    rw [this]
    exact h _
  · have := ev_cof hw hv t ht2 (envPut e t false)
    rw [envPut_at, if_neg (by simp), ev_put hw v2 t2] at this
    rw [this]
    exact h _
end Go.Proofs.Ytihikenmknphkaa.Q

namespace Go.Proofs.Ytihikenmknphkaa.Q
open Go Go.RowKit Go.Maps Go.Proofs.YtihikenmknphkaaW.PrintWords Go.Proofs.YtihikenmknphkaaW.PrintLast Go.Proofs.YtihikenmknphkaaW.PrintMore Go.Proofs.Ytihikenmknphkaa.M
set_option linter.unusedVariables false
set_option linter.unusedSimpArgs false

/-- all tests are below 6 -/
def T6 (ns : List N39) : Prop := ∀ x ∈ ns, x.f0 ≤ 5
theorem T6.top {ns : List N39} (h : T6 ns) {x : Int} (hv : validN ns x = true) (h6 : 6 ≤ topN ns x) : x < 0 := by
  by_cases h0 : x < 0
  · exact h0
  · obtain ⟨hi, e⟩ := rd_int39 (by omega) (valid_lt hv).2
    unfold topN at h6
    rw [if_neg h0, e] at h6
    have := h _ (List.getElem_mem hi)
    omega
/-- r is g where f holds, h elsewhere -/
structure Sem (ns : List N39) (f g h r : Int) : Prop where
  vf : validN ns f = true
  vg : validN ns g = true
  vh : validN ns h = true
  vr : validN ns r = true
  top : min3 (topN ns f) (topN ns g) (topN ns h) ≤ topN ns r
  sem : ∀ e, ev ns e r = if ev ns e f = 1 then ev ns e g else ev ns e h
theorem Sem.app {ns ms : List N39} {f g h r : Int} (hs : Sem ns f g h r) (hw : WF ns) (hw2 : WF (ns ++ ms)) : Sem (ns ++ ms) f g h r :=
  ⟨valid_app hs.vf, valid_app hs.vg, valid_app hs.vh, valid_app hs.vr, by rw [top_app (valid_lt hs.vf).2, top_app (valid_lt hs.vg).2, top_app (valid_lt hs.vh).2, top_app (valid_lt hs.vr).2]; exact hs.top,
   fun e => by rw [ev_grow hw hw2 e hs.vf, ev_grow hw hw2 e hs.vg, ev_grow hw hw2 e hs.vh, ev_grow hw hw2 e hs.vr]; exact hs.sem e⟩
def MemSem (ns : List N39) (memo : Memo) : Prop := ∀ kl r, memo kl = some r → ∃ f g h, kl = kl3 f g h ∧ Sem ns f g h r
theorem MemSem.app {ns ms : List N39} {memo : Memo} (h : MemSem ns memo) (hw : WF ns) (hw2 : WF (ns ++ ms)) : MemSem (ns ++ ms) memo := fun kl r hr => by
  obtain ⟨f, g, x, e, hs⟩ := h kl r hr
  exact ⟨f, g, x, e, hs.app hw hw2⟩
theorem valid_okI {ns : List N39} {x : Int} (h : validN ns x = true) (hl : ns.length ≤ 100000) : okI x := by
  have := valid_lt h
  exact okI_of (by omega) (by omega)
/-- Node that is not refused -/
theorem node_go {ns : List N39} {t y n : Int} (hw : WF ns) (hl : ns.length < 4000) (ht0 : 0 ≤ t) (ht1 : t ≤ 1000) (vy : validN ns y = true) (vn : validN ns n = true) (hy : t < topN ns y) (hn : t < topN ns n) :
    ∃ ms r, nodeF ns t y n = some (ns ++ ms, r) ∧ WF (ns ++ ms) ∧ ms.length ≤ 1 ∧ (∀ x ∈ ms, x.f0 = t) ∧ validN (ns ++ ms) r = true ∧ t ≤ topN (ns ++ ms) r ∧ ∀ e, ev (ns ++ ms) e r = if e t then ev (ns ++ ms) e y else ev (ns ++ ms) e n := by
  have hr : refuses ns t y n = false := by
    unfold refuses
    rw [vy, vn]
    simp
    omega
  by_cases e : y = n
  · refine ⟨[], y, ?_, by simpa using hw, by simp, by simp, by simpa using vy, ?_, fun e' => ?_⟩
    · unfold nodeF
      rw [hr, if_neg (by simp), if_pos e]
      simp
    · simp; omega
    · rw [e]; simp
  · cases hf : findN ns ⟨t, y, n⟩ with
    | some i =>
      obtain ⟨hi, hx⟩ := findN_some hf
      have hrd : rd_T39 ns (i : Int) = ⟨t, y, n⟩ := by rw [rd_nat39 hi, hx]
      have vi : validN ns (i : Int) = true := valid_iff.2 (by omega)
      refine ⟨[], (i : Int), ?_, by simpa using hw, by simp, by simp, by simpa using vi, ?_, fun e' => ?_⟩
      · unfold nodeF
        rw [hr, if_neg (by simp), if_neg e, hf]
        simp
      · rw [List.append_nil]; unfold topN; rw [if_neg (by omega), hrd]; exact Int.le_refl _
      · rw [List.append_nil, ev_node hw vi (by omega), hrd]
        cases e' t <;> simp
    | none =>
      have hw2 := hw.snoc (NodeOk.of hr) e hf
      have hrd : rd_T39 (ns ++ [⟨t, y, n⟩]) (ns.length : Int) = ⟨t, y, n⟩ := by rw [rd_nat39 (by simp)]; simp
      have vi : validN (ns ++ [⟨t, y, n⟩]) (ns.length : Int) = true := valid_iff.2 (by simp; omega)
      refine ⟨[⟨t, y, n⟩], (ns.length : Int), ?_, hw2, by simp, by simp, vi, ?_, fun e' => ?_⟩
      · unfold nodeF
        rw [hr, if_neg (by simp), if_neg e, hf]
        simp
        omega
      · unfold topN; rw [if_neg (by omega), hrd]; exact Int.le_refl _
      · rw [ev_node hw2 vi (by omega), hrd]
        cases e' t <;> simp
theorem T6.app {ns ms : List N39} (h : T6 ns) (k : T6 ms) : T6 (ns ++ ms) := fun x hx => (List.mem_append.1 hx).elim (h x) (k x)
theorem Cd.app {ns ms : List N39} (hw : WF ns) (hw2 : WF (ns ++ ms)) {f : Int} (hv : validN ns f = true) (h : Cd ns f) : Cd (ns ++ ms) f := fun e => by rw [ev_grow hw hw2 e hv]; exact h e
theorem choose_go : ∀ (k : Nat) (ns : List N39) (memo : Memo) (c : Nat) (f g h : Int), WF ns → T6 ns → MemSem ns memo → validN ns f = true → validN ns g = true → validN ns h = true → Cd ns f →
    6 - (k : Int) ≤ topN ns f → 6 - (k : Int) ≤ topN ns g → 6 - (k : Int) ≤ topN ns h → ns.length + 2 ^ k ≤ 4001 → c + 2 ^ k ≤ 1000000000 →
    ∃ ms memo' c' r, chooseF (k + 1) ns memo c f g h = some (ns ++ ms, memo', c', r) ∧ WF (ns ++ ms) ∧ T6 (ns ++ ms) ∧ MemSem (ns ++ ms) memo' ∧ Sem (ns ++ ms) f g h r ∧ ms.length + 1 ≤ 2 ^ k ∧ c' + 1 ≤ c + 2 ^ k := by
  intro k
  induction k with
  | zero =>
    intro ns memo c f g h hw h6 hm vf vg vh hc tf tg th hl hcl
    have f0 := h6.top vf (by simpa using tf)
    have tr := hw.top_range (valid_lt vf).2
    have trg := hw.top_range (valid_lt vg).2
    have trh := hw.top_range (valid_lt vh).2
    rcases hc.leaf f0 with e | e
    · refine ⟨[], memo, c, h, ?_, by simpa using hw, by simpa using h6, by simpa using hm, ?_, by simp, by simp⟩
      · unfold chooseF
        rw [if_neg (by omega), if_pos e]
        simp
      · rw [List.append_nil]
        exact ⟨vf, vg, vh, vh, by unfold min3; omega, fun e' => by rw [ev_leaf f0, if_neg (by omega)]⟩
    · refine ⟨[], memo, c, g, ?_, by simpa using hw, by simpa using h6, by simpa using hm, ?_, by simp, by simp⟩
      · unfold chooseF
        rw [if_pos e]
        simp
      · rw [List.append_nil]
        exact ⟨vf, vg, vh, vg, by unfold min3; omega, fun e' => by rw [ev_leaf f0, if_pos (by omega)]⟩
  | succ k ih =>
    intro ns memo c f g h hw h6 hm vf vg vh hc tf tg th hl hcl
    have h2 : 2 ^ (k + 1) = 2 * 2 ^ k := by rw [Nat.pow_succ]; omega
    have h1 : 1 ≤ 2 ^ k := Nat.one_le_two_pow
    have tr := hw.top_range (valid_lt vf).2
    have trg := hw.top_range (valid_lt vg).2
    have trh := hw.top_range (valid_lt vh).2
    by_cases e1 : f = -2
    · refine ⟨[], memo, c, g, ?_, by simpa using hw, by simpa using h6, by simpa using hm, ?_, by simp; omega, by omega⟩
      · unfold chooseF
        rw [if_pos e1]
        simp
      · rw [List.append_nil]
        exact ⟨vf, vg, vh, vg, by unfold min3; omega, fun e' => by rw [ev_leaf (id := f) (by omega), if_pos (by omega)]⟩
    by_cases e2 : f = -1
    · refine ⟨[], memo, c, h, ?_, by simpa using hw, by simpa using h6, by simpa using hm, ?_, by simp; omega, by omega⟩
      · unfold chooseF
        rw [if_neg e1, if_pos e2]
        simp
      · rw [List.append_nil]
        exact ⟨vf, vg, vh, vh, by unfold min3; omega, fun e' => by rw [ev_leaf (id := f) (by omega), if_neg (by omega)]⟩
    have f0 : ¬ f < 0 := fun h0 => by rcases hc.leaf h0 with e | e <;> omega
    by_cases e4 : g = h
    · refine ⟨[], memo, c, g, ?_, by simpa using hw, by simpa using h6, by simpa using hm, ?_, by simp; omega, by omega⟩
      · unfold chooseF
        rw [if_neg e1, if_neg e2, if_neg f0, if_pos e4]
        simp
      · rw [List.append_nil]
        exact ⟨vf, vg, vh, vg, by unfold min3; omega, fun e' => by rw [← e4]; simp⟩
    cases hk : memo (kl3 f g h) with
    | some r =>
      obtain ⟨f', g', h', ee, hs⟩ := hm _ _ hk
      obtain ⟨rfl, rfl, rfl⟩ := kl3_inj (valid_okI vf (by omega)) (valid_okI vg (by omega)) (valid_okI vh (by omega)) (valid_okI hs.vf (by omega)) (valid_okI hs.vg (by omega)) (valid_okI hs.vh (by omega)) ee
      refine ⟨[], memo, c, r, ?_, by simpa using hw, by simpa using h6, by simpa using hm, by simpa using hs, by simp; omega, by omega⟩
      unfold chooseF
      rw [if_neg e1, if_neg e2, if_neg f0, if_neg e4, hk]
      simp
    | none =>
      obtain ⟨hi, erd⟩ := rd_int39 (ns := ns) (i := f) (by omega) (valid_lt vf).2
      have tf5 : topN ns f ≤ 5 := by
        unfold topN
        rw [if_neg f0, erd]
        exact h6 _ (List.getElem_mem hi)
      have mf : min3 (topN ns f) (topN ns g) (topN ns h) ≤ topN ns f := by unfold min3; omega
      have mg : min3 (topN ns f) (topN ns g) (topN ns h) ≤ topN ns g := by unfold min3; omega
      have mh : min3 (topN ns f) (topN ns g) (topN ns h) ≤ topN ns h := by unfold min3; omega
      have m0 : 0 ≤ min3 (topN ns f) (topN ns g) (topN ns h) := by unfold min3; omega
      have mk : 6 - ((k + 1 : Nat) : Int) ≤ min3 (topN ns f) (topN ns g) (topN ns h) := by unfold min3; omega
      have hunf : chooseF (k + 1 + 1) ns memo c f g h = (chooseF (k + 1) ns memo c (cofN ns f (min3 (topN ns f) (topN ns g) (topN ns h))).1 (cofN ns g (min3 (topN ns f) (topN ns g) (topN ns h))).1 (cofN ns h (min3 (topN ns f) (topN ns g) (topN ns h))).1).bind fun p =>
          if p.2.2.2 = -1002 then none else
          (chooseF (k + 1) p.1 p.2.1 p.2.2.1 (cofN ns f (min3 (topN ns f) (topN ns g) (topN ns h))).2 (cofN ns g (min3 (topN ns f) (topN ns g) (topN ns h))).2 (cofN ns h (min3 (topN ns f) (topN ns g) (topN ns h))).2).bind fun q =>
            if q.2.2.2 = -1002 then none else
            (nodeF q.1 (min3 (topN ns f) (topN ns g) (topN ns h)) p.2.2.2 q.2.2.2).bind fun s =>
              if s.2 = -1002 then none else if 1000000000 ≤ q.2.2.1 then none else some (s.1, upd q.2.1 (kl3 f g h) s.2, q.2.2.1 + 1, s.2) := by
        conv => lhs; unfold chooseF
        rw [if_neg e1, if_neg e2, if_neg f0, if_neg e4, hk]
      rw [hunf]
      clear hunf
      generalize hT : min3 (topN ns f) (topN ns g) (topN ns h) = T at *
      obtain ⟨f1, f2, tf1, tf2⟩ := hw.cof vf mf (by omega)
      obtain ⟨g1, g2, tg1, tg2⟩ := hw.cof vg mg (by omega)
      obtain ⟨h1', h2', th1, th2⟩ := hw.cof vh mh (by omega)
      have cf := hc.cof hw vf mf (by omega)
      obtain ⟨ms1, memo1, c1, y, r1, w1, s1, m1, S1, l1, b1⟩ := ih ns memo c _ _ _ hw h6 hm f1 g1 h1' cf.1 (by omega) (by omega) (by omega) (by omega) (by omega)
      have vy1 := valid_lt S1.vr
      rw [r1]
      simp only [Option.bind_some]
      rw [if_neg (by omega)]
      obtain ⟨ms2, memo2, c2, n, r2, w2, s2, m2, S2, l2, b2⟩ := ih (ns ++ ms1) memo1 c1 (cofN ns f T).2 (cofN ns g T).2 (cofN ns h T).2 w1 s1 m1 (valid_app f2) (valid_app g2) (valid_app h2') (cf.2.app hw w1 f2)
        (by rw [top_app (valid_lt f2).2]; omega) (by rw [top_app (valid_lt g2).2]; omega) (by rw [top_app (valid_lt h2').2]; omega) (by rw [List.length_append]; omega) (by omega)
      have S1' := S1.app w1 w2
      have vy2 := valid_lt S2.vr
      rw [r2]
      simp only [Option.bind_some]
      rw [if_neg (by omega)]
      have ty : T < topN (ns ++ ms1 ++ ms2) y := by
        have := S1'.top
        rw [List.append_assoc, top_app (valid_lt f1).2, top_app (valid_lt g1).2, top_app (valid_lt h1').2, ← List.append_assoc] at this
        unfold min3 at this
        omega
      have tn : T < topN (ns ++ ms1 ++ ms2) n := by
        have := S2.top
        rw [List.append_assoc, top_app (valid_lt f2).2, top_app (valid_lt g2).2, top_app (valid_lt h2').2, ← List.append_assoc] at this
        unfold min3 at this
        omega
      obtain ⟨ms3, r, r3, w3, l3, t3, vr, top3, sem3⟩ := node_go w2 (by simp only [List.length_append]; omega) m0 (by omega) S1'.vr S2.vr ty tn
      have vr2 := valid_lt vr
      rw [r3]
      simp only [Option.bind_some]
      rw [if_neg (by omega), if_neg (by omega)]
      have easc : ns ++ ms1 ++ ms2 ++ ms3 = ns ++ (ms1 ++ ms2 ++ ms3) := by simp
      have wx : WF (ns ++ (ms1 ++ ms2 ++ ms3)) := easc ▸ w3
      have S1x := S1'.app w2 w3
      have S2x := S2.app w2 w3
      have hsem : Sem (ns ++ (ms1 ++ ms2 ++ ms3)) f g h r := by
        refine ⟨valid_app vf, valid_app vg, valid_app vh, easc ▸ vr, ?_, fun e => ?_⟩
        · rw [top_app (valid_lt vf).2, top_app (valid_lt vg).2, top_app (valid_lt vh).2, hT, ← easc]; exact top3
        · have q := sem3 e
          rw [easc] at q S1x S2x
          rw [q, ev_grow hw wx e vf, ev_grow hw wx e vg, ev_grow hw wx e vh]
          have c1 := ev_cof hw vf T (by omega) e
          have c2 := ev_cof hw vg T (by omega) e
          have c3 := ev_cof hw vh T (by omega) e
          have a1 := S1x.sem e
          have a2 := S2x.sem e
          rw [ev_grow hw wx e f1, ev_grow hw wx e g1, ev_grow hw wx e h1'] at a1
          rw [ev_grow hw wx e f2, ev_grow hw wx e g2, ev_grow hw wx e h2'] at a2
          cases het : e T with
          | true =>
            rw [het, if_pos rfl] at c1 c2 c3
            rw [if_pos rfl, a1, c1, c2, c3]
          | false =>
            rw [het, if_neg (by simp)] at c1 c2 c3
            rw [if_neg (by simp), a2, c1, c2, c3]
      refine ⟨ms1 ++ ms2 ++ ms3, _, _, r, by rw [easc], wx, ?_, ?_, hsem, by simp only [List.length_append]; omega, by omega⟩
      · rw [← easc]
        exact s2.app (fun x hx => by rw [t3 x hx]; omega)
      · intro kl r' hr'
        by_cases e : kl = kl3 f g h
        · rw [e, upd_same] at hr'
          injection hr' with hr'
          exact ⟨f, g, h, e, hr' ▸ hsem⟩
        · rw [upd_other _ _ e] at hr'
          rw [← easc]
          exact m2.app w2 w3 kl r' hr'
end Go.Proofs.Ytihikenmknphkaa.Q

namespace Go.Proofs.Ytihikenmknphkaa.Q
open Go Go.RowKit Go.Maps Go.Proofs.YtihikenmknphkaaW.PrintWords Go.Proofs.YtihikenmknphkaaW.PrintLast Go.Proofs.YtihikenmknphkaaW.PrintMore Go.Proofs.Ytihikenmknphkaa.M
set_option linter.unusedVariables false
set_option linter.unusedSimpArgs false

theorem rcB_iff {ns : List N39} {id x : Int} : rcB ns id x = true ↔ validN ns id = true ∧ Rc ns id x := by
  unfold rcB
  simp
theorem mem_leavesF {ns : List N39} {id n : Int} : n ∈ leavesF ns id ↔ 0 ≤ n ∧ n ≤ 1000 ∧ validN ns id = true ∧ Rc ns id (-1 - n) := by
  unfold leavesF
  rw [mem_leavesU, rcB_iff]
  constructor
  · rintro ⟨a, b, c⟩; exact ⟨a, by omega, c⟩
  · rintro ⟨a, b, c⟩; exact ⟨a, by omega, c⟩
theorem condF_iff {ns : List N39} (hw : WF ns) {f : Int} : condF ns f = true ↔ validN ns f = true ∧ Cd ns f := by
  unfold condF
  rw [Bool.and_eq_true]
  refine ⟨fun ⟨hv, h⟩ => ⟨hv, fun e => ?_⟩, fun ⟨hv, h⟩ => ⟨hv, ?_⟩⟩
  · obtain ⟨x, hr, hx, he⟩ := ev_in hw e (f + 1).toNat f (by omega) hv
    have hxv := valid_lt (hr.valid hw hv).1
    have hm : -1 - x ∈ leavesF ns f := mem_leavesF.2 ⟨by omega, by omega, hv, by rw [show (-1 - (-1 - x)) = x by omega]; exact hr⟩
    rw [Bool.not_eq_true', List.any_eq_false] at h
    have := h _ hm
    simp at this
    omega
  · rw [Bool.not_eq_true', List.any_eq_false]
    intro n hn
    obtain ⟨h0, h1, _, hr⟩ := mem_leavesF.1 hn
    obtain ⟨e0, he⟩ := hr.env hw hv
    have := he e0 (fun _ _ => rfl)
    rw [ev_leaf (id := -1 - n) (by omega)] at this
    have := h e0
    simp
    omega
theorem condF_leaf {ns : List N39} (hw : WF ns) : condF ns (-1) = true ∧ condF ns (-2) = true :=
  ⟨(condF_iff hw).2 ⟨valid_iff.2 (by omega), fun e => by rw [ev_leaf (by omega)]; omega⟩, (condF_iff hw).2 ⟨valid_iff.2 (by omega), fun e => by rw [ev_leaf (by omega)]; omega⟩⟩
theorem okI_valid {ns : List N39} {x : Int} (hv : validN ns x = true) (hl : ns.length ≤ 4000) : okI x := valid_okI hv (by omega)

/-! ### both stores come to the same -/
def Both (fP fR : Nat) (args : List Value) (ns ns' : List N39) (r : Int) : Prop :=
  (∀ S m v full w, StAt 58 w S m v ns full → Calls Try.prog fP (Value.pointer (some ⟨S, 0, none⟩) :: args).toArray w (NodeEnd 58 w S m v ns' full r)) ∧
  (∀ S m v full w, StAt 67 w S m v ns full → Calls Try.prog fR (Value.pointer (some ⟨S, 0, none⟩) :: args).toArray w (NodeEnd 67 w S m v ns' full r))
theorem both_node {ns ns' : List N39} {t y n r : Int} (h : nodeF ns t y n = some (ns', r)) : Both 18 27 [.int .i64 t, .int .i64 y, .int .i64 n] ns ns' r :=
  ⟨fun S m v full w hS => nodeP_calls S m v ns ns' full t y n r w hS h, fun S m v full w hS => nodeR_calls S m v ns ns' full t y n r w hS h⟩
theorem both_choose {ns ns' : List N39} {f g h r : Int} (hw : WF ns) (ho : okI f) (hr : ChRes ns f g h ns' r) : Both 32 33 [.int .i64 f, .int .i64 g, .int .i64 h] ns ns' r :=
  ⟨fun S m v full w hS => chooseOpP_calls ns ns' f g h r S m v full w hw hS ho hr, fun S m v full w hS => chooseOpR_calls ns ns' f g h r S m v full w hw hS ho hr⟩
def AndRes (ns : List N39) (f g : Int) (ns' : List N39) (r : Int) : Prop := (condF ns g = false ∧ ns' = ns ∧ r = -1002) ∨ (condF ns g = true ∧ ChRes ns f g (-1) ns' r)
def OrRes (ns : List N39) (f g : Int) (ns' : List N39) (r : Int) : Prop := (condF ns g = false ∧ ns' = ns ∧ r = -1002) ∨ (condF ns g = true ∧ ChRes ns f (-2) g ns' r)
theorem both_and {ns ns' : List N39} {f g r : Int} (hw : WF ns) (hof : okI f) (ho : okI g) (hr : AndRes ns f g ns' r) : Both 21 29 [.int .i64 f, .int .i64 g] ns ns' r := by
  rcases hr with ⟨h1, rfl, rfl⟩ | ⟨h1, h2⟩
  · exact ⟨fun S m v full w hS => opAndP_no _ f g S m v full w hw hS ho h1, fun S m v full w hS => opAndR_no _ f g S m v full w hw hS ho h1⟩
  · exact ⟨fun S m v full w hS => opAndP_yes ns ns' f g r S m v full w hw hS hof ho h1 h2, fun S m v full w hS => opAndR_yes ns ns' f g r S m v full w hw hS hof ho h1 h2⟩
theorem both_or {ns ns' : List N39} {f g r : Int} (hw : WF ns) (hof : okI f) (ho : okI g) (hr : OrRes ns f g ns' r) : Both 30 31 [.int .i64 f, .int .i64 g] ns ns' r := by
  rcases hr with ⟨h1, rfl, rfl⟩ | ⟨h1, h2⟩
  · exact ⟨fun S m v full w hS => opOrP_no _ f g S m v full w hw hS ho h1, fun S m v full w hS => opOrR_no _ f g S m v full w hw hS ho h1⟩
  · exact ⟨fun S m v full w hS => opOrP_yes ns ns' f g r S m v full w hw hS hof ho h1 h2, fun S m v full w hS => opOrR_yes ns ns' f g r S m v full w hw hS hof ho h1 h2⟩
theorem both_not {ns ns' : List N39} {f r : Int} (hw : WF ns) (hof : okI f) (hr : ChRes ns f (-1) (-2) ns' r) : Both 20 28 [.int .i64 f] ns ns' r :=
  ⟨fun S m v full w hS => opNotP_calls ns ns' f r S m v full w hw hS hof hr, fun S m v full w hS => opNotR_calls ns ns' f r S m v full w hw hS hof hr⟩

/-! ### there is a result -/
/-- a store over tests below 6 with at most n nodes -/
structure Six (ns : List N39) (n : Nat) : Prop where
  wf : WF ns
  t6 : T6 ns
  len : ns.length ≤ n
theorem chOk_iff {ns : List N39} (hw : WF ns) {f g h : Int} : chOk ns f g h = true ↔ (validN ns f = true ∧ Cd ns f) ∧ validN ns g = true ∧ validN ns h = true := by
  unfold chOk
  rw [Bool.and_eq_true, Bool.and_eq_true, condF_iff hw]
  exact ⟨fun ⟨⟨a, b⟩, c⟩ => ⟨a, b, c⟩, fun ⟨a, b, c⟩ => ⟨⟨a, b⟩, c⟩⟩
theorem ch_yes {ns : List N39} {n : Nat} (hs : Six ns n) (hn : n ≤ 3900) {f g h : Int} (vf : validN ns f = true) (cf : Cd ns f) (vg : validN ns g = true) (vh : validN ns h = true) :
    ∃ ms r, ChRes ns f g h (ns ++ ms) r ∧ Six (ns ++ ms) (n + 63) ∧ Sem (ns ++ ms) f g h r := by
  have hl := hs.len
  have tr := hs.wf.top_range (valid_lt vf).2
  have trg := hs.wf.top_range (valid_lt vg).2
  have trh := hs.wf.top_range (valid_lt vh).2
  obtain ⟨ms, memo', c', r, h1, h2, h3, _, h5, h6, _⟩ := choose_go 6 ns (fun _ => none) 0 f g h hs.wf hs.t6 (fun _ _ e => by cases e) vf vg vh cf (by simp; omega) (by simp; omega) (by simp; omega) (by omega) (by omega)
  exact ⟨ms, r, .inr ⟨(chOk_iff hs.wf).2 ⟨⟨vf, cf⟩, vg, vh⟩, _, memo', c', h1⟩, ⟨h2, h3, by rw [List.length_append]; omega⟩, h5⟩
/-- an id that is none, or a diagram -/
def Mayb (ns : List N39) (r : Int) : Prop := r = -1002 ∨ validN ns r = true
theorem ch_any {ns : List N39} {n : Nat} (hs : Six ns n) (hn : n ≤ 3900) (f g h : Int) : ∃ ms r, ChRes ns f g h (ns ++ ms) r ∧ Six (ns ++ ms) (n + 63) ∧ Mayb (ns ++ ms) r := by
  cases hc : chOk ns f g h with
  | false => exact ⟨[], -1002, .inl ⟨hc, by simp, rfl⟩, by rw [List.append_nil]; exact ⟨hs.wf, hs.t6, by have := hs.len; omega⟩, .inl rfl⟩
  | true =>
    obtain ⟨⟨vf, cf⟩, vg, vh⟩ := (chOk_iff hs.wf).1 hc
    obtain ⟨ms, r, h1, h2, h3⟩ := ch_yes hs hn vf cf vg vh
    exact ⟨ms, r, h1, h2, .inr h3.vr⟩
theorem and_any {ns : List N39} {n : Nat} (hs : Six ns n) (hn : n ≤ 3900) (f g : Int) : ∃ ms r, AndRes ns f g (ns ++ ms) r ∧ Six (ns ++ ms) (n + 63) ∧ Mayb (ns ++ ms) r := by
  cases hc : condF ns g with
  | false => exact ⟨[], -1002, .inl ⟨hc, by simp, rfl⟩, by rw [List.append_nil]; exact ⟨hs.wf, hs.t6, by have := hs.len; omega⟩, .inl rfl⟩
  | true =>
    obtain ⟨ms, r, h1, h2, h3⟩ := ch_any hs hn f g (-1)
    exact ⟨ms, r, .inr ⟨hc, h1⟩, h2, h3⟩
theorem or_any {ns : List N39} {n : Nat} (hs : Six ns n) (hn : n ≤ 3900) (f g : Int) : ∃ ms r, OrRes ns f g (ns ++ ms) r ∧ Six (ns ++ ms) (n + 63) ∧ Mayb (ns ++ ms) r := by
  cases hc : condF ns g with
  | false => exact ⟨[], -1002, .inl ⟨hc, by simp, rfl⟩, by rw [List.append_nil]; exact ⟨hs.wf, hs.t6, by have := hs.len; omega⟩, .inl rfl⟩
  | true =>
    obtain ⟨ms, r, h1, h2, h3⟩ := ch_any hs hn f (-2) g
    exact ⟨ms, r, .inr ⟨hc, h1⟩, h2, h3⟩
theorem refuses_iff {ns : List N39} {t y n : Int} : refuses ns t y n = false ↔ (0 ≤ t ∧ t ≤ 1000) ∧ validN ns y = true ∧ validN ns n = true ∧ t < topN ns y ∧ t < topN ns n := by
  unfold refuses
  simp only [Bool.or_eq_false_iff, decide_eq_false_iff_not, Bool.not_eq_false']
  constructor
  · rintro ⟨⟨⟨⟨⟨a, b⟩, c⟩, d⟩, e⟩, f⟩; exact ⟨by omega, c, d, by omega, by omega⟩
  · rintro ⟨a, c, d, e, f⟩; exact ⟨⟨⟨⟨⟨by omega, by omega⟩, c⟩, d⟩, by omega⟩, by omega⟩
theorem node_any {ns : List N39} {n : Nat} (hs : Six ns n) (hn : n ≤ 3900) {t : Int} (ht : t ≤ 5) (y z : Int) : ∃ ms r, nodeF ns t y z = some (ns ++ ms, r) ∧ Six (ns ++ ms) (n + 63) ∧ Mayb (ns ++ ms) r := by
  have hl := hs.len
  cases hr : refuses ns t y z with
  | true =>
    refine ⟨[], -1002, ?_, by rw [List.append_nil]; exact ⟨hs.wf, hs.t6, by omega⟩, .inl rfl⟩
    unfold nodeF
    rw [hr, if_pos rfl, List.append_nil]
  | false =>
    obtain ⟨ht0, vy, vn, hy, hn⟩ := refuses_iff.1 hr
    obtain ⟨ms, r, h1, h2, h3, h4, h5, _⟩ := node_go hs.wf (by omega) ht0.1 ht0.2 vy vn hy hn
    exact ⟨ms, r, h1, ⟨h2, hs.t6.app (fun x hx => by rw [h4 x hx]; exact ht), by rw [List.length_append]; omega⟩, .inr h5⟩
theorem Mayb.okI {ns : List N39} {r : Int} (h : Mayb ns r) (hl : ns.length ≤ 4000) : okI r := by
  rcases h with rfl | h
  · exact okI_of (by omega) (by omega)
  · exact okI_valid h hl
end Go.Proofs.Ytihikenmknphkaa.Q
