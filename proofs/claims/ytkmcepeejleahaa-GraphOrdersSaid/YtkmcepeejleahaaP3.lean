/-
  What the references of chapter 10 come to: Same, Has, ready, Order, Add, Needs, Cyclic. A condition: lists of at most 1000.
-/
import Derived.Test.YtkmcepeejleahaaP1
import Derived.Test.YtkmcepeejleahaaB
import Derived.Test.YtkmcepeejleahaaQ1
import Derived.Test.YtkmcepeejleahaaQ4
import Derived.Test.YtkmcepeejleahaaQ8
import Derived.Test.YtkmcepeejleahaaQ12
namespace Go.Proofs.Ytkmcepeejleahaa.Q
open Go.RowKit Go.Proofs.YtkmcepeejleahaaW.PrintWords Go.Proofs.YtkmcepeejleahaaW.PrintLast Go.Proofs.YtkmcepeejleahaaW.PrintMore Go.Proofs.Ytkmcepeejleahaa.M
set_option linter.unusedVariables false
set_option linter.unusedSimpArgs false

theorem wrap_next {i : Int} {n : Nat} (h0 : 0 ≤ i) (h : i < n) (hn : n ≤ 1000000000) : wrap64 (i + 1) = i + 1 := by
  unfold wrap64
  omega
theorem same_loop (a : List ByteArray) (hn : a.length ≤ 1000000000) (d : Nat) : ∀ i : Int, 0 ≤ i → i ≤ a.length → (a.length : Int) - i = d → Ev (fun k => flagstoneref1_Same.l0 k a a i) true := by
  induction d with
  | zero =>
    intro i h0 h1 hd
    refine Ev.step (f := fun _ => some true) (fun k => ?_) (Ev.now true)
    simp only [flagstoneref1_Same.l0]
    rw [if_neg (by omega)]
  | succ d ih =>
    intro i h0 h1 hd
    have hlt : i < (a.length : Int) := by omega
    refine Ev.step (f := fun k => flagstoneref1_Same.l0 k a a (i + 1)) (fun k => ?_) (ih (i + 1) (by omega) (by omega) (by omega))
    simp only [flagstoneref1_Same.l0]
    rw [if_pos hlt, if_pos h0, if_pos hlt, wrap_next h0 hlt hn]
    simp
theorem same_ev (a : List ByteArray) (hn : a.length ≤ 1000000000) : Ev (fun k => flagstoneref1_Same.f k a a) true := by
  refine Ev.congr (f := fun k => flagstoneref1_Same.l0 k a a 0) (fun k => ?_) (same_loop a hn a.length 0 (by omega) (by omega) (by omega))
  unfold flagstoneref1_Same.f
  rw [if_pos rfl]

theorem drop_consS {l : List ByteArray} {i : Int} (h0 : 0 ≤ i) (h1 : i < (l.length : Int)) : l.drop i.toNat = rdOf ByteArray.empty l i :: l.drop (i + 1).toNat := by
  rw [List.drop_eq_getElem_cons (by omega), show (i + 1).toNat = i.toNat + 1 by omega]
  simp [rdOf, List.getD_eq_getElem?_getD, List.getElem?_eq_getElem (show i.toNat < l.length by omega)]
theorem drop_cons40 {l : List S40} {i : Int} (h0 : 0 ≤ i) (h1 : i < (l.length : Int)) : l.drop i.toNat = rd_T40 l i :: l.drop (i + 1).toNat := by
  rw [List.drop_eq_getElem_cons (by omega), show (i + 1).toNat = i.toNat + 1 by omega]
  congr 1
  unfold rd_T40
  rw [List.getD_eq_getElem?_getD, List.getElem?_eq_getElem (show i.toNat < l.length by omega)]
  rfl
noncomputable instance decM (x : ByteArray) (l : List ByteArray) : Decidable (x ∈ l) := Classical.propDecidable _
theorem hasl_ev (l : List ByteArray) (x : ByteArray) (hl : l.length ≤ 100000) (d : Nat) : ∀ i : Int, 0 ≤ i → i ≤ (l.length : Int) → (l.length : Int) - i = d → Ev (fun k => flagstoneref1_Has.l0 k l x i) (decide (x ∈ l.drop i.toNat)) := by
  induction d with
  | zero =>
    intro i h0 h1 hd
    rw [List.drop_eq_nil_of_le (by omega)]
    refine Ev.step (f := fun _ => some false) (fun k => ?_) (by simpa using Ev.now false)
    simp only [flagstoneref1_Has.l0]
    rw [if_neg (by omega)]
  | succ d ih =>
    intro i h0 h1 hd
    have hlt : i < (l.length : Int) := by omega
    rw [drop_consS h0 hlt]
    by_cases e : rdOf ByteArray.empty l i = x
    · refine Ev.step (f := fun _ => some true) (fun k => ?_) (by simpa [e] using Ev.now true)
      simp only [flagstoneref1_Has.l0]
      rw [if_pos hlt, if_pos h0, if_pos (by rw [e])]
    · have h := ih (i + 1) (by omega) (by omega) (by omega)
      have e2 : decide (x ∈ rdOf ByteArray.empty l i :: l.drop (i + 1).toNat) = decide (x ∈ l.drop (i + 1).toNat) := by
        rw [decide_eq_decide]
        simp [Ne.symm e]
      rw [e2]
      refine Ev.step (fun k => ?_) h
      simp only [flagstoneref1_Has.l0]
      rw [if_pos hlt, if_pos h0, if_neg (fun h => e (toList_inj h)), wrap_next h0 hlt (by omega)]
theorem has_ev (l : List ByteArray) (x : ByteArray) (hl : l.length ≤ 100000) : Ev (fun k => flagstoneref1_Has.f k l x) (decide (x ∈ l)) :=
  Ev.congr (fun k => rfl) (hasl_ev l x hl l.length 0 (by omega) (by omega) (by omega))
theorem has_yes {l : List ByteArray} {x : ByteArray} (hl : l.length ≤ 100000) (h : x ∈ l) : Ev (fun k => flagstoneref1_Has.f k l x) true := by have := has_ev l x hl; rwa [decide_eq_true h] at this
theorem has_no {l : List ByteArray} {x : ByteArray} (hl : l.length ≤ 100000) (h : x ∉ l) : Ev (fun k => flagstoneref1_Has.f k l x) false := by have := has_ev l x hl; rwa [decide_eq_false h] at this

/-! ### ready -/
theorem readyl_ev (out : List ByteArray) (es : List S40) (x : ByteArray) (ho : out.length ≤ 1000) (he : es.length ≤ 1000) (b : Bool) (d : Nat) : ∀ i : Int, 0 ≤ i → i ≤ (es.length : Int) → (es.length : Int) - i = d → (b = true ↔ (x ∉ out ∧ ∀ e ∈ es.drop i.toNat, e.f0 = x → e.f1 ∈ out)) →
    Ev (fun k => flagstoneref9_ready.l0 k out es x i) b := by
  induction d with
  | zero =>
    intro i h0 h1 hd hb
    rw [List.drop_eq_nil_of_le (by omega)] at hb
    refine Ev.step (f := fun k => (flagstoneref1_Has.f k out x).bind fun t202 => (some (!t202))) (fun k => ?_) ?_
    · simp only [flagstoneref9_ready.l0]
      rw [if_neg (by omega)]
    · rcases Classical.em (x ∈ out) with h | h
      · have : b = false := by cases b with | false => rfl | true => exact absurd h (hb.1 rfl).1
        rw [this]
        exact Ev.bind (has_yes (by omega) h) (Ev.now _)
      · have : b = true := hb.2 ⟨h, by simp⟩
        rw [this]
        exact Ev.bind (has_no (by omega) h) (Ev.now _)
  | succ d ih =>
    intro i h0 h1 hd hb
    have hlt : i < (es.length : Int) := by omega
    rw [drop_cons40 h0 hlt] at hb
    by_cases e : (rd_T40 es i).f0 = x
    · refine Ev.step (f := fun k => (flagstoneref1_Has.f k out ((rd_T40 es i).f1)).bind fun t201 => (if t201 = true then (flagstoneref9_ready.l0 k out es x (i + 1)) else (some false))) (fun k => ?_) ?_
      · simp only [flagstoneref9_ready.l0]
        rw [if_pos hlt, if_pos h0, if_pos (by rw [e]), wrap_next h0 hlt (by omega)]
      · rcases Classical.em ((rd_T40 es i).f1 ∈ out) with h | h
        · refine Ev.bind (has_yes (by omega) h) ?_
          simp only [if_true]
          refine ih (i + 1) (by omega) (by omega) (by omega) (hb.trans ⟨fun ⟨a, c⟩ => ⟨a, fun e he => c e (by simp [he])⟩, fun ⟨a, c⟩ => ⟨a, fun e2 he => ?_⟩⟩)
          rcases List.mem_cons.1 he with e1 | e1
          · intro _; rw [e1]; exact h
          · exact c e2 e1
        · have : b = false := by cases b with | false => rfl | true => exact absurd ((hb.1 rfl).2 _ (by simp) e) h
          rw [this]
          exact Ev.bind (has_no (by omega) h) (Ev.now _)
    · refine Ev.step (f := fun k => flagstoneref9_ready.l0 k out es x (i + 1)) (fun k => ?_) (ih (i + 1) (by omega) (by omega) (by omega) (hb.trans ⟨fun ⟨a, c⟩ => ⟨a, fun e he => c e (by simp [he])⟩, fun ⟨a, c⟩ => ⟨a, fun e2 he => ?_⟩⟩))
      · simp only [flagstoneref9_ready.l0]
        rw [if_pos hlt, if_pos h0, if_neg (fun h => e (toList_inj h)), wrap_next h0 hlt (by omega)]
      · rcases List.mem_cons.1 he with e1 | e1
        · intro h2; rw [e1] at h2; exact absurd h2 e
        · exact c e2 e1
theorem ready_ev (out : List ByteArray) (es : List S40) (x : ByteArray) (ho : out.length ≤ 1000) (he : es.length ≤ 1000) (b : Bool) (hb : b = true ↔ Cand es out x) : Ev (fun k => flagstoneref9_ready.f k out es x) b :=
  Ev.congr (fun k => rfl) (readyl_ev out es x ho he b es.length 0 (by omega) (by omega) (by omega) (by simpa [Cand, Rdy] using hb))

/-! ### Order -/
def BestS (es : List S40) (out l : List ByteArray) (b : ByteArray) (f : Bool) : Prop := (f = false → ∀ y ∈ l, ¬ Cand es out y) ∧ (f = true → b ∈ l ∧ Cand es out b ∧ ∀ y ∈ l, Cand es out y → y = b ∨ ltS b y)
theorem pick_ev (zs : List ByteArray) (es : List S40) (out : List ByteArray) (r : List ByteArray × Int) (hz : zs.length ≤ 1000) (he : es.length ≤ 1000) (ho : out.length ≤ 1000)
    (hfin : ∀ b f, BestS es out zs b f → (f = true → Ev (fun k => flagstoneref9_Order.l2 k zs es (out ++ [b])) r) ∧ (f = false → r = ([], 12))) (d : Nat) :
    ∀ (i : Int) (b : ByteArray) (f : Bool), 0 ≤ i → i ≤ (zs.length : Int) → (zs.length : Int) - i = d → BestS es out (zs.take i.toNat) b f → Ev (fun k => flagstoneref9_Order.l3 k zs es out b f i) r := by
  induction d with
  | zero =>
    intro i b f h0 h1 hd hb
    rw [List.take_of_length_le (by omega)] at hb
    obtain ⟨g1, g2⟩ := hfin b f hb
    cases f with
    | true =>
      refine Ev.step (f := fun k => flagstoneref9_Order.l2 k zs es (out ++ [b])) (fun k => ?_) (g1 rfl)
      simp only [flagstoneref9_Order.l3]
      rw [if_neg (by omega), if_pos trivial, if_pos (by simp; omega)]
      simp only [List.nil_append, Option.bind_some]
      rw [if_pos (by omega)]
    | false =>
      rw [g2 rfl]
      refine Ev.step (f := fun _ => some ([], 12)) (fun k => ?_) (Ev.now _)
      simp only [flagstoneref9_Order.l3]
      rw [if_neg (by omega)]
      simp
  | succ d ih =>
    intro i b f h0 h1 hd hb
    have hlt : i < (zs.length : Int) := by omega
    have htk := take_snocS h0 hlt
    refine Ev.step (f := fun k => (flagstoneref9_ready.f k out es (rdOf ByteArray.empty zs i)).bind fun t211 => (if t211 = true then (if f = true then (if (Op.bytesLess ((rdOf ByteArray.empty zs i).toList) b.toList) = true then (flagstoneref9_Order.l3 k zs es out (rdOf ByteArray.empty zs i) true (i + 1)) else (flagstoneref9_Order.l3 k zs es out b f (i + 1))) else (flagstoneref9_Order.l3 k zs es out (rdOf ByteArray.empty zs i) true (i + 1))) else (flagstoneref9_Order.l3 k zs es out b f (i + 1)))) (fun k => ?_) ?_
    · simp only [flagstoneref9_Order.l3]
      rw [if_pos hlt, if_pos h0, wrap_next h0 hlt (by omega)]
    rcases Classical.em (Cand es out (rdOf ByteArray.empty zs i)) with hc | hc
    · have hr := ready_ev out es (rdOf ByteArray.empty zs i) ho he true ⟨fun _ => hc, fun _ => rfl⟩
      refine Ev.bind hr ?_
      simp only [if_true]
      cases f with
      | false =>
        simp only [Bool.false_eq_true, if_false]
        refine ih (i + 1) _ true (by omega) (by omega) (by omega) ⟨fun h => (by cases h), fun _ => ⟨by rw [htk]; simp, hc, fun y hy hcy => ?_⟩⟩
        rw [htk, List.mem_append, List.mem_singleton] at hy
        rcases hy with e | e
        · exact absurd hcy (hb.1 rfl y e)
        · exact .inl e
      | true =>
        obtain ⟨b1, b2, b3⟩ := hb.2 rfl
        rcases Classical.em (ltS (rdOf ByteArray.empty zs i) b) with hl | hl
        · rw [less_true hl]
          simp only [if_true]
          refine ih (i + 1) _ true (by omega) (by omega) (by omega) ⟨fun h => (by cases h), fun _ => ⟨by rw [htk]; simp, hc, fun y hy hcy => ?_⟩⟩
          rw [htk, List.mem_append, List.mem_singleton] at hy
          rcases hy with e | e
          · rcases b3 y e hcy with e2 | e2
            · rw [e2]; exact .inr hl
            · exact .inr (ltS_trans hl e2)
          · exact .inl e
        · rw [less_false hl]
          simp only [Bool.false_eq_true, if_false, if_true]
          refine ih (i + 1) b true (by omega) (by omega) (by omega) ⟨fun h => (by cases h), fun _ => ⟨by rw [htk]; simp [b1], b2, fun y hy hcy => ?_⟩⟩
          rw [htk, List.mem_append, List.mem_singleton] at hy
          rcases hy with e | e
          · exact b3 y e hcy
          · rw [e]
            rcases ltS_total (rdOf ByteArray.empty zs i) b with h | h | h
            · exact absurd h hl
            · exact .inl h
            · exact .inr h
    · have hr := ready_ev out es (rdOf ByteArray.empty zs i) ho he false ⟨fun h => (by cases h), fun h => absurd h hc⟩
      refine Ev.bind hr ?_
      simp only [Bool.false_eq_true, if_false]
      refine ih (i + 1) b f (by omega) (by omega) (by omega) ⟨fun h y hy => ?_, fun h => ⟨by rw [htk]; simp [(hb.2 h).1], (hb.2 h).2.1, fun y hy hcy => ?_⟩⟩
      · rw [htk, List.mem_append, List.mem_singleton] at hy
        rcases hy with e | e
        · exact hb.1 h y e
        · rw [e]; exact hc
      · rw [htk, List.mem_append, List.mem_singleton] at hy
        rcases hy with e | e
        · exact (hb.2 h).2.2 y e hcy
        · rw [e] at hcy; exact absurd hcy hc
theorem run_ev {zs : List ByteArray} {es : List S40} (hz : zs.length ≤ 1000) (he : es.length ≤ 1000) {out : List ByteArray} {r : List ByteArray × Int} (h : Run zs es out r) : Ev (fun k => flagstoneref9_Order.l2 k zs es out) r := by
  induction h with
  | @done out hl =>
    refine Ev.step (f := fun _ => some (out, 0)) (fun k => ?_) (Ev.now _)
    simp only [flagstoneref9_Order.l2]
    rw [if_neg (by omega)]
  | @stuck out hl hs =>
    refine Ev.step (f := fun k => flagstoneref9_Order.l3 k zs es out ⟨#[]⟩ false 0) (fun k => ?_) (pick_ev zs es out _ hz he (by omega) (fun b f hb => ⟨fun hf => absurd (hb.2 hf).2.1 (hs b (hb.2 hf).1), fun _ => rfl⟩) zs.length 0 _ _ (by omega) (by omega) (by omega) ⟨fun _ y hy => by simp at hy, fun h => (by cases h)⟩)
    simp only [flagstoneref9_Order.l2]
    rw [if_pos (by omega)]
  | @step out x r hl hx hc hm _ ih =>
    refine Ev.step (f := fun k => flagstoneref9_Order.l3 k zs es out ⟨#[]⟩ false 0) (fun k => ?_) (pick_ev zs es out _ hz he (by omega) (fun b f hb => ⟨fun hf => ?_, fun hf => absurd hc (hb.1 hf x hx)⟩) zs.length 0 _ _ (by omega) (by omega) (by omega) ⟨fun _ y hy => by simp at hy, fun h => (by cases h)⟩)
    · simp only [flagstoneref9_Order.l2]
      rw [if_pos (by omega)]
    · obtain ⟨b1, b2, b3⟩ := hb.2 hf
      have e : b = x := by
        rcases hm b b1 b2 with e | e
        · exact e
        · rcases b3 x hx hc with e2 | e2
          · exact e2.symm
          · exact absurd e2 (ltS_asymm e)
      rw [e]
      exact ih
theorem dup_ev (zs : List ByteArray) (es : List S40) (r : List ByteArray × Int) (hz : zs.length ≤ 1000) (hy : zs.Nodup → Ev (fun k => flagstoneref9_Order.l1 k zs es 0) r) (hn : ¬ zs.Nodup → r = ([], 10)) (d : Nat) :
    ∀ i : Int, 0 ≤ i → i ≤ (zs.length : Int) → (zs.length : Int) - i = d → (zs.take i.toNat).Nodup → Ev (fun k => flagstoneref9_Order.l0 k zs es i) r := by
  induction d with
  | zero =>
    intro i h0 h1 hd hb
    rw [List.take_of_length_le (by omega)] at hb
    refine Ev.step (fun k => ?_) (hy hb)
    simp only [flagstoneref9_Order.l0]
    rw [if_neg (by omega)]
  | succ d ih =>
    intro i h0 h1 hd hb
    have hlt : i < (zs.length : Int) := by omega
    have htk := take_snocS h0 hlt
    refine Ev.step (f := fun k => (flagstoneref1_Has.f k (zs.take (i : Int).toNat) (rdOf ByteArray.empty zs i)).bind fun t205 => (if t205 = true then (some (([] : List ByteArray), 10)) else (flagstoneref9_Order.l0 k zs es (i + 1)))) (fun k => ?_) ?_
    · simp only [flagstoneref9_Order.l0]
      rw [if_pos hlt, if_pos h0, if_pos (by omega), wrap_next h0 hlt (by omega)]
    rcases Classical.em (rdOf ByteArray.empty zs i ∈ zs.take i.toNat) with h | h
    · have hnd : ¬ zs.Nodup := fun hnd => by
        have h2 : (zs.take (i + 1).toNat).Nodup := hnd.sublist (List.take_sublist _ _)
        rw [htk, List.nodup_append] at h2
        exact h2.2.2 _ h _ (by simp) rfl
      rw [hn hnd]
      exact Ev.bind (has_yes (by simp; omega) h) (Ev.now _)
    · refine Ev.bind (has_no (by simp; omega) h) ?_
      simp only [Bool.false_eq_true, if_false]
      refine ih (i + 1) (by omega) (by omega) (by omega) ?_
      rw [htk, List.nodup_append]
      refine ⟨hb, by simp, fun a ha b hb2 => ?_⟩
      rw [List.mem_singleton] at hb2
      rintro rfl
      exact h (hb2 ▸ ha)
theorem in_ev (zs : List ByteArray) (es : List S40) (r : List ByteArray × Int) (hz : zs.length ≤ 1000) (he : es.length ≤ 1000) (hy : (∀ e ∈ es, e.f0 ∈ zs ∧ e.f1 ∈ zs) → Ev (fun k => flagstoneref9_Order.l2 k zs es []) r) (hn : (¬ ∀ e ∈ es, e.f0 ∈ zs ∧ e.f1 ∈ zs) → r = ([], 11)) (d : Nat) :
    ∀ i : Int, 0 ≤ i → i ≤ (es.length : Int) → (es.length : Int) - i = d → (∀ e ∈ es.take i.toNat, e.f0 ∈ zs ∧ e.f1 ∈ zs) → Ev (fun k => flagstoneref9_Order.l1 k zs es i) r := by
  induction d with
  | zero =>
    intro i h0 h1 hd hb
    rw [List.take_of_length_le (by omega)] at hb
    refine Ev.step (fun k => ?_) (hy hb)
    simp only [flagstoneref9_Order.l1]
    rw [if_neg (by omega)]
  | succ d ih =>
    intro i h0 h1 hd hb
    have hlt : i < (es.length : Int) := by omega
    have htk := take_snoc40 h0 hlt
    refine Ev.step (f := fun k => (flagstoneref1_Has.f k zs ((rd_T40 es i).f0)).bind fun t207 => (if t207 = true then ((flagstoneref1_Has.f k zs ((rd_T40 es i).f1)).bind fun t209 => (if t209 = true then (flagstoneref9_Order.l1 k zs es (i + 1)) else (some (([] : List ByteArray), 11)))) else (some (([] : List ByteArray), 11)))) (fun k => ?_) ?_
    · simp only [flagstoneref9_Order.l1]
      rw [if_pos hlt, if_pos h0, wrap_next h0 hlt (by omega)]
    rcases Classical.em ((rd_T40 es i).f0 ∈ zs) with h | h
    · refine Ev.bind (has_yes (by omega) h) ?_
      simp only [if_true]
      rcases Classical.em ((rd_T40 es i).f1 ∈ zs) with h' | h'
      · refine Ev.bind (has_yes (by omega) h') ?_
        simp only [if_true]
        refine ih (i + 1) (by omega) (by omega) (by omega) (fun e he2 => ?_)
        rw [htk, List.mem_append, List.mem_singleton] at he2
        rcases he2 with e1 | e1
        · exact hb e e1
        · rw [e1]; exact ⟨h, h'⟩
      · rw [hn (fun ha => h' (ha _ (rd_mem40 h0 hlt)).2)]
        exact Ev.bind (has_no (by omega) h') (Ev.now _)
    · rw [hn (fun ha => h (ha _ (rd_mem40 h0 hlt)).1)]
      exact Ev.bind (has_no (by omega) h) (Ev.now _)
theorem order_ev (zs : List ByteArray) (es : List S40) (hz : zs.length ≤ 1000) (he : es.length ≤ 1000) : Ev (fun k => flagstoneref9_Order.f k zs es) (orderF zs es) := by
  refine Ev.congr (fun k => rfl) (dup_ev zs es _ hz (fun hnd => ?_) (fun h => orderF_dup es h) zs.length 0 (by omega) (by omega) (by omega) (by simp))
  exact in_ev zs es _ hz he (fun ha => run_ev hz he (orderF_run hnd ha)) (fun h => orderF_out hnd h) es.length 0 (by omega) (by omega) (by omega) (by simp)
end Go.Proofs.Ytkmcepeejleahaa.Q

namespace Go.Proofs.Ytkmcepeejleahaa.Q
open Go.RowKit Go.Proofs.YtkmcepeejleahaaW.PrintWords Go.Proofs.YtkmcepeejleahaaW.PrintLast Go.Proofs.YtkmcepeejleahaaW.PrintMore Go.Proofs.Ytkmcepeejleahaa.M
set_option linter.unusedVariables false
set_option linter.unusedSimpArgs false

/-- x put into the ascending list l -/
structure PutS (l : List ByteArray) (x : ByteArray) (r : List ByteArray) : Prop where
  asc : r.Pairwise ltS
  mem : ∀ y, y ∈ r ↔ y = x ∨ y ∈ l
theorem addl_ev {l : List ByteArray} {x : ByteArray} (hl : l.length ≤ 100000) (ha : l.Pairwise ltS) (d : Nat) : ∀ i : Int, 0 ≤ i → i ≤ (l.length : Int) → (l.length : Int) - i = d → (∀ y ∈ l.take i.toNat, ltS y x) →
    ∃ r, PutS l x r ∧ Ev (fun k => flagstoneref1_Add.l0 k l x i) r := by
  induction d with
  | zero =>
    intro i h0 h1 hd hb
    refine ⟨[] ++ l.take i.toNat ++ [x] ++ l.drop i.toNat, ?_, Ev.step (f := fun _ => some ([] ++ l.take i.toNat ++ [x] ++ l.drop i.toNat)) (fun k => ?_) (Ev.now _)⟩
    · have e1 : l.take i.toNat = l := List.take_of_length_le (by omega)
      have e2 : l.drop i.toNat = [] := List.drop_eq_nil_of_le (by omega)
      rw [e1] at hb
      rw [e1, e2]
      refine ⟨?_, fun y => by simp [or_comm]⟩
      simp only [List.nil_append, List.append_nil]
      rw [List.pairwise_append]
      exact ⟨ha, by simp, fun a h b k => by simp at k; rw [k]; exact hb a h⟩
    · simp only [flagstoneref1_Add.l0, Option.bind_some]
      have hlt : (l.take i.toNat).length ≤ l.length := by simp; omega
      have hld : (l.drop i.toNat).length ≤ l.length := by simp
      rw [if_neg (by omega), if_pos h0, if_pos (by omega), if_pos (by simp; omega), if_pos (by simp; omega), if_pos (by simp; omega)]
  | succ d ih =>
    intro i h0 h1 hd hb
    have hlt : i < (l.length : Int) := by omega
    have hmem : rdOf ByteArray.empty l i ∈ l := rdS_mem h0 hlt
    rcases ltS_total (rdOf ByteArray.empty l i) x with hc | hc | hgt
    · obtain ⟨r, hr, he⟩ := ih (i + 1) (by omega) (by omega) (by omega) (fun y hy => by
        rw [take_snocS h0 hlt] at hy
        rcases List.mem_append.1 hy with e | e
        · exact hb y e
        · simp at e; rw [e]; exact hc)
      refine ⟨r, hr, Ev.step (fun k => ?_) he⟩
      simp only [flagstoneref1_Add.l0]
      rw [if_pos hlt, if_pos h0, if_pos (less_true hc), wrap_next h0 hlt (by omega)]
    · refine ⟨l, ⟨ha, fun y => ⟨.inr, fun h => ?_⟩⟩, Ev.step (f := fun _ => some l) (fun k => ?_) (Ev.now _)⟩
      · rcases h with e | e
        · rw [e, ← hc]; exact hmem
        · exact e
      · simp only [flagstoneref1_Add.l0]
        rw [if_pos hlt, if_pos h0, if_neg (by rw [less_false (hc ▸ ltS_irrefl _)]; simp), if_pos (by rw [hc])]
    · have hnc : ¬ ltS (rdOf ByteArray.empty l i) x := ltS_asymm hgt
      refine ⟨[] ++ l.take i.toNat ++ [x] ++ l.drop i.toNat, ?_, Ev.step (f := fun _ => some ([] ++ l.take i.toNat ++ [x] ++ l.drop i.toNat)) (fun k => ?_) (Ev.now _)⟩
      · have hsplit := List.take_append_drop i.toNat l
        have hp : (l.take i.toNat ++ l.drop i.toNat).Pairwise ltS := by rw [hsplit]; exact ha
        rw [List.pairwise_append] at hp
        have hd2 : ∀ y ∈ l.drop i.toNat, ltS x y := by
          intro y hy
          have hpd := hp.2.1
          rw [drop_consS h0 hlt] at hy hpd
          rcases List.mem_cons.1 hy with e | e
          · rw [e]; exact hgt
          · exact ltS_trans hgt ((List.pairwise_cons.1 hpd).1 y e)
        refine ⟨?_, fun y => ?_⟩
        · simp only [List.nil_append, List.append_assoc]
          rw [List.pairwise_append]
          refine ⟨hp.1, ?_, ?_⟩
          · simp only [List.singleton_append, List.pairwise_cons]
            exact ⟨hd2, hp.2.1⟩
          · intro a h b k
            simp only [List.singleton_append, List.mem_cons] at k
            rcases k with k | k
            · rw [k]; exact hb a h
            · exact hp.2.2 a h b k
        · have hmm : y ∈ l ↔ y ∈ l.take i.toNat ∨ y ∈ l.drop i.toNat := by rw [← List.mem_append, hsplit]
          simp only [List.nil_append, List.mem_append, List.mem_singleton, hmm]
          constructor
          · rintro ((h | h) | h)
            · exact .inr (.inl h)
            · exact .inl h
            · exact .inr (.inr h)
          · rintro (h | h | h)
            · exact .inl (.inr h)
            · exact .inl (.inl h)
            · exact .inr h
      · simp only [flagstoneref1_Add.l0, Option.bind_some]
        have hlt2 : (l.take i.toNat).length ≤ l.length := by simp; omega
        have hld : (l.drop i.toNat).length ≤ l.length := by simp
        rw [if_pos hlt, if_pos h0, if_neg (by rw [less_false hnc]; simp), if_neg (fun h => by rw [toList_inj h] at hgt; exact ltS_irrefl _ hgt), if_pos (by omega), if_pos (by simp; omega), if_pos (by simp; omega), if_pos (by simp; omega)]
theorem add_ev {l : List ByteArray} (x : ByteArray) (hl : l.length ≤ 100000) (ha : l.Pairwise ltS) : ∃ r, PutS l x r ∧ Ev (fun k => flagstoneref1_Add.f k l x) r := by
  obtain ⟨r, h1, h2⟩ := addl_ev (x := x) hl ha l.length 0 (by omega) (by omega) (by omega) (by simp)
  exact ⟨r, h1, Ev.congr (fun k => rfl) h2⟩

/-! ### Needs -/
/-- half way through the edges of x -/
structure HalfQ (es : List S40) (a x : ByteArray) (i : Nat) (out todo : List ByteArray) : Prop where
  asc : out.Pairwise ltS
  sub : ∀ y ∈ out, Reach es a y
  opn : ∀ y ∈ todo, y = a ∨ Reach es a y
  x_ : x = a ∨ Reach es a x
  fol : ∀ y, (y = a ∨ y ∈ out) → y ∈ todo ∨ (y = x ∧ ∀ e ∈ es.take i, e.f0 = x → e.f1 ∈ out) ∨ ∀ e ∈ es, e.f0 = y → e.f1 ∈ out
structure StQ (es : List S40) (a : ByteArray) (out todo : List ByteArray) : Prop where
  asc : out.Pairwise ltS
  sub : ∀ y ∈ out, Reach es a y
  opn : ∀ y ∈ todo, y = a ∨ Reach es a y
  fol : ∀ y, (y = a ∨ y ∈ out) → y ∈ todo ∨ ∀ e ∈ es, e.f0 = y → e.f1 ∈ out
noncomputable def muQ (es : List S40) (out todo : List ByteArray) : Nat := 2 * (es.countP fun e => !(doneS out e.f1)) + todo.length
theorem StQ.done {es : List S40} {a : ByteArray} {out : List ByteArray} (h : StQ es a out []) : out = needF es a := by
  refine sorted_ext h.asc (needF_sorted es a) (fun x => ?_)
  rw [mem_needF]
  refine ⟨h.sub x, fun hr => ?_⟩
  induction hr with
  | one he ha =>
    rcases h.fol a (.inl rfl) with e | e
    · simp at e
    · exact e _ he ha
  | more _ he ih =>
    rcases h.fol _ (.inr ih) with e | e
    · simp at e
    · exact e _ he rfl
theorem StQ.pop {es : List S40} {a x : ByteArray} {out todo : List ByteArray} (h : StQ es a out (x :: todo)) : HalfQ es a x 0 out todo := by
  refine ⟨h.asc, h.sub, fun y hy => h.opn y (by simp [hy]), h.opn x (by simp), fun y hy => ?_⟩
  rcases h.fol y hy with e | e
  · rcases List.mem_cons.1 e with e2 | e2
    · exact .inr (.inl ⟨e2, by simp⟩)
    · exact .inl e2
  · exact .inr (.inr e)
theorem HalfQ.end_ {es : List S40} {a x : ByteArray} {out todo : List ByteArray} {i : Nat} (h : HalfQ es a x i out todo) (hi : es.length ≤ i) : StQ es a out todo := by
  refine ⟨h.asc, h.sub, h.opn, fun y hy => ?_⟩
  rcases h.fol y hy with e | ⟨e1, e2⟩ | e
  · exact .inl e
  · rw [List.take_of_length_le hi] at e2
    exact .inr (fun e he hf => e2 e he (hf.trans e1))
  · exact .inr e
theorem HalfQ.skip {es : List S40} {a x : ByteArray} {out todo : List ByteArray} {i : Int} (h : HalfQ es a x i.toNat out todo) (h0 : 0 ≤ i) (hi : i < (es.length : Int)) (hk : (rd_T40 es i).f0 = x → (rd_T40 es i).f1 ∈ out) : HalfQ es a x (i + 1).toNat out todo := by
  refine ⟨h.asc, h.sub, h.opn, h.x_, fun y hy => ?_⟩
  rcases h.fol y hy with e | ⟨e1, e2⟩ | e
  · exact .inl e
  · refine .inr (.inl ⟨e1, fun e he hf => ?_⟩)
    rw [take_snoc40 h0 hi, List.mem_append, List.mem_singleton] at he
    rcases he with e3 | e3
    · exact e2 e e3 hf
    · rw [e3] at hf ⊢; exact hk hf
  · exact .inr (.inr e)
theorem HalfQ.push {es : List S40} {a x : ByteArray} {out todo out' : List ByteArray} {i : Int} (h : HalfQ es a x i.toNat out todo) (h0 : 0 ≤ i) (hi : i < (es.length : Int)) (hk : (rd_T40 es i).f0 = x) (hp : PutS out (rd_T40 es i).f1 out') : HalfQ es a x (i + 1).toNat out' (todo ++ [(rd_T40 es i).f1]) := by
  have hr : Reach es a (rd_T40 es i).f1 := by
    rcases h.x_ with e | e
    · exact .one (rd_mem40 h0 hi) (hk.trans e)
    · exact .more (hk ▸ e) (rd_mem40 h0 hi)
  refine ⟨hp.asc, fun y hy => ?_, fun y hy => ?_, h.x_, fun y hy => ?_⟩
  · rcases (hp.mem y).1 hy with e | e
    · rw [e]; exact hr
    · exact h.sub y e
  · rcases List.mem_append.1 hy with e | e
    · exact h.opn y e
    · rw [List.mem_singleton] at e; rw [e]; exact .inr hr
  · have up : ∀ z, z ∈ out → z ∈ out' := fun z hz => (hp.mem z).2 (.inr hz)
    have old : (y = a ∨ y ∈ out) → y ∈ todo ++ [(rd_T40 es i).f1] ∨ (y = x ∧ ∀ e ∈ es.take (i + 1).toNat, e.f0 = x → e.f1 ∈ out') ∨ ∀ e ∈ es, e.f0 = y → e.f1 ∈ out' := by
      intro hy
      rcases h.fol y hy with e | ⟨e1, e2⟩ | e
      · exact .inl (by simp [e])
      · refine .inr (.inl ⟨e1, fun e he hf => ?_⟩)
        rw [take_snoc40 h0 hi, List.mem_append, List.mem_singleton] at he
        rcases he with e3 | e3
        · exact up _ (e2 e e3 hf)
        · rw [e3]; exact (hp.mem _).2 (.inl rfl)
      · exact .inr (.inr (fun e2 he hf => up _ (e e2 he hf)))
    rcases hy with e | e
    · exact old (.inl e)
    · rcases (hp.mem y).1 e with e2 | e2
      · exact .inl (by simp [e2])
      · exact old (.inr e2)
theorem mu_push {es : List S40} {out out' todo : List ByteArray} {x : ByteArray} (hm : ∃ e ∈ es, e.f1 = x) (hx : x ∉ out) (hp : PutS out x out') : muQ es out' (todo ++ [x]) + 1 ≤ muQ es out todo := by
  unfold muQ
  have hd : ∀ y, doneS out' y = (eqS y x || doneS out y) := by
    intro y
    rw [Bool.eq_iff_iff, Bool.or_eq_true, doneS_iff, doneS_iff, eqS_iff, hp.mem]
  have hlt : (es.countP fun e => !(doneS out' e.f1)) + 1 ≤ es.countP fun e => !(doneS out e.f1) := by
    obtain ⟨e, he, rfl⟩ := hm
    have hle : ∀ l : List S40, (l.countP fun z => !(doneS out' z.f1)) ≤ l.countP fun z => !(doneS out z.f1) := fun l =>
      List.countP_mono_left (fun z _ hz => by simp [hd] at hz ⊢; exact hz.2)
    obtain ⟨l1, l2, rfl⟩ := List.append_of_mem he
    have h1 := hle l1
    have h2 := hle l2
    have e1 : (!(doneS out' e.f1)) = false := by simp [hd, eqS_iff.2 rfl]
    have e2 : (!(doneS out e.f1)) = true := by
      cases hc : doneS out e.f1 with
      | false => rfl
      | true => exact absurd (doneS_iff.1 hc) hx
    simp only [List.countP_append, List.countP_cons]
    rw [if_neg (by rw [e1]; simp), if_pos e2]
    omega
  simp only [List.length_append, List.length_singleton]
  omega
theorem asc_len {es : List S40} {a : ByteArray} {out : List ByteArray} (h : out.Pairwise ltS) (hs : ∀ y ∈ out, Reach es a y) : out.length ≤ es.length := by
  have := nodup_le (S := es.map (·.f1)) (sorted_nodup h) (fun x hx => reach_in (hs x hx))
  simpa using this

theorem needs_ev (es : List S40) (a : ByteArray) (he : es.length ≤ 1000) : ∀ (N : Nat) (out todo : List ByteArray), StQ es a out todo → muQ es out todo ≤ N → N ≤ 3000 → Ev (fun k => flagstoneref9_Needs.l0 k es out todo) (needF es a)
  | N, out, [], hs, hm, hN => by
    rw [← hs.done]
    refine Ev.step (f := fun _ => some out) (fun k => ?_) (Ev.now _)
    simp only [flagstoneref9_Needs.l0]
    rw [if_neg (by simp)]
  | 0, out, x :: todo, hs, hm, hN => by
    unfold muQ at hm
    simp at hm
  | N + 1, out, x :: todo, hs, hm, hN => by
    have inner : ∀ (d : Nat) (i : Int) (o t : List ByteArray), 0 ≤ i → i ≤ (es.length : Int) → (es.length : Int) - i = d → HalfQ es a x i.toNat o t → muQ es o t ≤ N → Ev (fun k => flagstoneref9_Needs.l1 k es o t x i) (needF es a) := by
      intro d
      induction d with
      | zero =>
        intro i o t h0 h1 hd hh hmu
        refine Ev.step (f := fun k => flagstoneref9_Needs.l0 k es o t) (fun k => ?_) (needs_ev es a he N o t (hh.end_ (by omega)) hmu (by omega))
        simp only [flagstoneref9_Needs.l1]
        rw [if_neg (by omega)]
      | succ d ih =>
        intro i o t h0 h1 hd hh hmu
        have hlt : i < (es.length : Int) := by omega
        have hol := asc_len hh.asc hh.sub
        have htl : t.length ≤ 3000 := by unfold muQ at hmu; omega
        by_cases e : (rd_T40 es i).f0 = x
        · refine Ev.step (f := fun k => (flagstoneref1_Has.f k o ((rd_T40 es i).f1)).bind fun t279 => (if t279 = true then (flagstoneref9_Needs.l1 k es o t x (i + 1)) else ((flagstoneref1_Add.f k o ((rd_T40 es i).f1)).bind fun t281 => flagstoneref9_Needs.l1 k es t281 (t ++ [(rd_T40 es i).f1]) x (i + 1)))) (fun k => ?_) ?_
          · simp only [flagstoneref9_Needs.l1]
            rw [if_pos hlt, if_pos h0, if_pos (by rw [e]), wrap_next h0 hlt (by omega)]
            congr 1
            funext t279
            by_cases ht : t279 = true
            · rw [if_pos ht, if_pos ht]
            · rw [if_neg ht, if_neg ht]
              congr 1
              funext t281
              rw [if_pos (by simp; omega)]
              simp only [List.nil_append, Option.bind_some]
              rw [if_pos (by simp; omega)]
          · rcases Classical.em ((rd_T40 es i).f1 ∈ o) with h | h
            · refine Ev.bind (has_yes (by omega) h) ?_
              simp only [if_true]
              exact ih (i + 1) o t (by omega) (by omega) (by omega) (hh.skip h0 hlt (fun _ => h)) hmu
            · refine Ev.bind (has_no (by omega) h) ?_
              simp only [Bool.false_eq_true, if_false]
              obtain ⟨o', hp, hev⟩ := add_ev (rd_T40 es i).f1 (by omega) hh.asc
              refine Ev.bind hev (ih (i + 1) o' _ (by omega) (by omega) (by omega) (hh.push h0 hlt e hp) ?_)
              have := mu_push (todo := t) ⟨_, rd_mem40 h0 hlt, rfl⟩ h hp
              omega
        · refine Ev.step (f := fun k => flagstoneref9_Needs.l1 k es o t x (i + 1)) (fun k => ?_) (ih (i + 1) o t (by omega) (by omega) (by omega) (hh.skip h0 hlt (fun h => absurd h e)) hmu)
          simp only [flagstoneref9_Needs.l1]
          rw [if_pos hlt, if_pos h0, if_neg (fun h => e (toList_inj h)), wrap_next h0 hlt (by omega)]
    refine Ev.step (f := fun k => flagstoneref9_Needs.l1 k es out todo x 0) (fun k => ?_) (inner es.length 0 out todo (by omega) (by omega) (by omega) hs.pop (by unfold muQ at hm ⊢; simp at hm; omega))
    simp only [flagstoneref9_Needs.l0]
    have hpos : (0 : Int) < ((x :: todo).length : Int) := by simp only [List.length_cons]; omega
    rw [if_pos (by omega), if_pos (by omega), if_pos (by omega)]
    simp [rdOf]
theorem needF_ev (es : List S40) (a : ByteArray) (he : es.length ≤ 1000) : Ev (fun k => flagstoneref9_Needs.f k es a) (needF es a) := by
  refine Ev.congr (fun k => rfl) (needs_ev es a he 3000 [] [a] ⟨by simp, fun y hy => by simp at hy, fun y hy => by simp at hy; exact .inl hy, fun y hy => ?_⟩ ?_ (by omega))
  · rcases hy with e | e
    · exact .inl (by simp [e])
    · simp at e
  · unfold muQ
    have := List.countP_le_length (p := fun e : S40 => !(doneS [] e.f1)) (l := es)
    simp only [List.length_singleton]
    omega
theorem needF_len (es : List S40) (a : ByteArray) : (needF es a).length ≤ es.length := asc_len (a := a) (needF_sorted es a) (fun y hy => mem_needF.1 hy)

/-! ### Cyclic -/
theorem cycl_ev (zs : List ByteArray) (es : List S40) (hz : zs.length ≤ 1000) (he : es.length ≤ 1000) (d : Nat) : ∀ (i : Int) (out : List ByteArray), 0 ≤ i → i ≤ (zs.length : Int) → (zs.length : Int) - i = d → out.Pairwise ltS → (∀ y, y ∈ out ↔ y ∈ zs.take i.toNat ∧ Reach es y y) → Ev (fun k => flagstoneref9_Cyclic.l0 k zs es out i) (cycF zs es) := by
  induction d with
  | zero =>
    intro i out h0 h1 hd ha hm
    rw [List.take_of_length_le (by omega)] at hm
    have e : out = cycF zs es := by
      refine sorted_ext ha ((sortD_sorted zs).sublist List.filter_sublist) (fun x => ?_)
      rw [hm]
      unfold cycF
      rw [List.mem_filter, mem_sortD, reachB_iff]
    rw [← e]
    refine Ev.step (f := fun _ => some out) (fun k => ?_) (Ev.now _)
    simp only [flagstoneref9_Cyclic.l0]
    rw [if_neg (by omega)]
  | succ d ih =>
    intro i out h0 h1 hd ha hm
    have hlt : i < (zs.length : Int) := by omega
    have htk := take_snocS h0 hlt
    have hol : out.length ≤ 1000 := by
      have := nodup_le (S := zs) (sorted_nodup ha) (fun x hx => List.mem_of_mem_take ((hm x).1 hx).1)
      omega
    refine Ev.step (f := fun k => (flagstoneref9_Needs.f k es (rdOf ByteArray.empty zs i)).bind fun t295 => ((flagstoneref1_Has.f k t295 (rdOf ByteArray.empty zs i)).bind fun t299 => (if t299 = true then ((flagstoneref1_Add.f k out (rdOf ByteArray.empty zs i)).bind fun t301 => (flagstoneref9_Cyclic.l0 k zs es t301 (i + 1))) else (flagstoneref9_Cyclic.l0 k zs es out (i + 1))))) (fun k => ?_) ?_
    · simp only [flagstoneref9_Cyclic.l0]
      rw [if_pos hlt, if_pos h0, wrap_next h0 hlt (by omega)]
    refine Ev.bind (needF_ev es _ he) ?_
    have hnl := needF_len es (rdOf ByteArray.empty zs i)
    rcases Classical.em (Reach es (rdOf ByteArray.empty zs i) (rdOf ByteArray.empty zs i)) with h | h
    · refine Ev.bind (has_yes (by omega) (mem_needF.2 h)) ?_
      simp only [if_true]
      obtain ⟨o', hp, hev⟩ := add_ev (rdOf ByteArray.empty zs i) (by omega) ha
      refine Ev.bind hev (ih (i + 1) o' (by omega) (by omega) (by omega) hp.asc (fun y => ?_))
      rw [hp.mem, hm, htk, List.mem_append, List.mem_singleton]
      constructor
      · rintro (e | ⟨e1, e2⟩)
        · exact ⟨.inr e, e ▸ h⟩
        · exact ⟨.inl e1, e2⟩
      · rintro ⟨e | e, e2⟩
        · exact .inr ⟨e, e2⟩
        · exact .inl e
    · refine Ev.bind (has_no (by omega) (fun hm => h (mem_needF.1 hm))) ?_
      simp only [Bool.false_eq_true, if_false]
      refine ih (i + 1) out (by omega) (by omega) (by omega) ha (fun y => ?_)
      rw [hm, htk, List.mem_append, List.mem_singleton]
      constructor
      · rintro ⟨e1, e2⟩
        exact ⟨.inl e1, e2⟩
      · rintro ⟨e | e, e2⟩
        · exact ⟨e, e2⟩
        · rw [e] at e2; exact absurd e2 h
theorem cyc_ev (zs : List ByteArray) (es : List S40) (hz : zs.length ≤ 1000) (he : es.length ≤ 1000) : Ev (fun k => flagstoneref9_Cyclic.f k zs es) (cycF zs es) :=
  Ev.congr (fun k => rfl) (cycl_ev zs es hz he zs.length 0 [] (by omega) (by omega) (by omega) (by simp) (by simp))
end Go.Proofs.Ytkmcepeejleahaa.Q
