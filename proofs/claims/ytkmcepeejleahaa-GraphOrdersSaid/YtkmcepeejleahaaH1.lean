/-
  Edges as a table: what a text needs; the map that tells it. No condition.
-/
import Derived.Test.YtkmcepeejleahaaG3
import Derived.Deep.RegionWith
namespace Go.Proofs.Ytkmcepeejleahaa.Q
open Go.RowKit Go.Proofs.YtkmcepeejleahaaW.PrintWords Go.Proofs.YtkmcepeejleahaaW.PrintLast Go.Proofs.Ytkmcepeejleahaa.M
set_option linter.unusedVariables false

/-- two texts are one -/
noncomputable def eqS (x y : ByteArray) : Bool := @decide (x = y) (Classical.propDecidable _)
theorem eqS_iff {x y : ByteArray} : eqS x y = true ↔ x = y := by unfold eqS; exact @decide_eq_true_iff _ (Classical.propDecidable _)
/-- what s needs directly, in the edges' order -/
noncomputable def needsL (es : List S40) (s : ByteArray) : List ByteArray := (es.filter fun e => eqS e.f0 s).map (·.f1)
theorem needsL_same (es : List S40) (e : S40) : needsL (es ++ [e]) e.f0 = needsL es e.f0 ++ [e.f1] := by
  unfold needsL
  simp [List.filter_append, eqS_iff.2 rfl]
theorem needsL_other (es : List S40) (e : S40) {s : ByteArray} (h : s ≠ e.f0) : needsL (es ++ [e]) s = needsL es s := by
  unfold needsL
  have : eqS e.f0 s = false := by
    cases hc : eqS e.f0 s with
    | false => rfl
    | true => exact absurd (eqS_iff.1 hc).symm h
  simp [List.filter_append, this]
theorem needsL_length (es : List S40) (s : ByteArray) : (needsL es s).length ≤ es.length := by
  unfold needsL
  simpa using List.length_filter_le (fun e => eqS e.f0 s) es

/-- the map at block b tells what each text needs; its rows are the call's own, each apart from the others -/
structure NMap (w : World) (base b n : Nat) (p : ByteArray → Option Value) (es : List S40) : Prop where
  map : SMap Try.prog 9 w b n p
  none_ : ∀ s, p s = none → needsL es s = []
  rows : ∀ s v, p s = some v → Kd.R Kd.string 9 w base (fun k => k ≠ b) v (needsL es s) ∧ needsL es s ≠ []
  apart : ∀ s s' v v', s ≠ s' → p s = some v → p s' = some v' → v.ownBlock ≠ v'.ownBlock

/-- nothing but block g (if any) has turned: the table stands, if g is none of its own -/
theorem NMap.grown {w w1 : World} {base b n : Nat} {p : ByteArray → Option Value} {es : List S40} (h : NMap w base b n p es) {row : Option Nat} (hg : w.grownBy w1 row) (hb : some b ≠ row) (hr : ∀ s v k, p s = some v → v.ownBlock = some k → some k ≠ row) : NMap w1 base b n p es := by
  refine ⟨h.map.kept hg hb, h.none_, fun s v hs => ?_, h.apart⟩
  obtain ⟨h1, h2⟩ := h.rows s v hs
  have h3 : Kd.R Kd.string 9 w base (fun k => v.ownBlock = some k) v (needsL es s) := Kd.R_of_own (Kd.own_of_R h1) (fun k hk => hk)
  exact ⟨Kd.R_mono (Kd.R_grown h3 hg (fun k hk => hr s v k hs hk)) (fun k hk => h1.1 k hk), h2⟩
theorem NMap.made (w : World) (base : Nat) : NMap (w.alloc (.map #[] 0)) base w.heap.size 0 (fun _ => none) [] :=
  ⟨SMap.made w Try.prog 9, fun s _ => rfl, fun s v h => (by cases h), fun s s' v v' _ h => (by cases h)⟩
theorem NMap.lt {w : World} {base b n : Nat} {p : ByteArray → Option Value} {es : List S40} (h : NMap w base b n p es) : b < w.heap.size := MapIs.lt h.map
/-- what the map holds at a text, nil where nothing -/
theorem NMap.row {w : World} {base b n : Nat} {p : ByteArray → Option Value} {es : List S40} (h : NMap w base b n p es) (s : ByteArray) : Kd.R Kd.string 9 w base (fun k => k ≠ b) ((p s).getD (.slice none 0 0)) (needsL es s) := by
  cases hp : p s with
  | some v => exact (h.rows s v hp).1
  | none => rw [h.none_ s hp]; exact Kd.R_nil _ _ _ _ _
/-- one edge more: the row of its first text is appended to, and stored back -/
theorem NMap.step {w w1 w2 : World} {base b n : Nat} {p : ByteArray → Option Value} {es : List S40} {e : S40} {v1 : Value} (h : NMap w base b n p es)
    (hr : Kd.R Kd.string 9 w1 base (fun k => k ≠ b) v1 (needsL es e.f0 ++ [e.f1])) (hg : w.grownBy w1 ((p e.f0).getD (.slice none 0 0)).ownBlock) (hat : v1.ownBlock = ((p e.f0).getD (.slice none 0 0)).ownBlock ∨ ∃ k, v1.ownBlock = some k ∧ w.heap.size ≤ k)
    (hm : SMap Try.prog 9 w2 b (n + 1) (upd p e.f0 v1)) (hg2 : w1.grownBy w2 (some b)) : NMap w2 base b (n + 1) (upd p e.f0 v1) (es ++ [e]) := by
  have hne : ∀ s v k, s ≠ e.f0 → p s = some v → v.ownBlock = some k → some k ≠ v1.ownBlock := by
    intro s v k hs hp hk he
    rcases hat with hat | ⟨q, hq, hle⟩
    · rw [hat] at he
      cases hp0 : p e.f0 with
      | none => rw [hp0] at he; cases he
      | some v0 =>
        rw [hp0] at he
        exact h.apart s e.f0 v v0 hs hp hp0 (hk.trans he)
    · have := Kd.R_lt (h.rows s v hp).1 k hk
      rw [hq] at he
      injection he with he
      omega
  have hold : ∀ s v k, s ≠ e.f0 → p s = some v → v.ownBlock = some k → some k ≠ ((p e.f0).getD (.slice none 0 0)).ownBlock := by
    intro s v k hs hp hk he
    cases hp0 : p e.f0 with
    | none => rw [hp0] at he; cases he
    | some v0 =>
      rw [hp0] at he
      exact h.apart s e.f0 v v0 hs hp hp0 (hk.trans he)
  refine ⟨hm, fun s hs => ?_, fun s v hs => ?_, fun s s' v v' hss hs hs' => ?_⟩
  · by_cases e1 : s = e.f0
    · rw [e1, upd_same] at hs; cases hs
    · rw [upd_other _ _ e1] at hs
      rw [needsL_other es e e1]
      exact h.none_ s hs
  · by_cases e1 : s = e.f0
    · subst e1
      rw [upd_same] at hs
      injection hs with hs
      subst hs
      rw [needsL_same]
      exact ⟨Kd.R_grown hr hg2 (fun k hk he => hk (by injection he)), by simp⟩
    · rw [upd_other _ _ e1] at hs
      rw [needsL_other es e e1]
      obtain ⟨h1, h2⟩ := h.rows s v hs
      have h3 : Kd.R Kd.string 9 w base (fun k => v.ownBlock = some k) v (needsL es s) := Kd.R_of_own (Kd.own_of_R h1) (fun k hk => hk)
      exact ⟨Kd.R_grown (Kd.R_mono (Kd.R_grown h3 hg (fun k hk => hold s v k e1 hs hk)) (fun k hk => h1.1 k hk)) hg2 (fun k hk he => hk (by injection he)), h2⟩
  · have hblk : ∀ s v, s ≠ e.f0 → p s = some v → v.ownBlock ≠ v1.ownBlock := by
      intro s v hs hp he
      obtain ⟨g, cap, rfl, _⟩ := Kd.R_form (h.rows s v hp).1 (List.length_pos_iff.2 (h.rows s v hp).2)
      exact hne s _ g hs hp rfl he
    by_cases e1 : s = e.f0 <;> by_cases e2 : s' = e.f0
    · exact absurd (e1.trans e2.symm) hss
    · rw [e1, upd_same] at hs; rw [upd_other _ _ e2] at hs'
      injection hs with hs; subst hs
      exact (hblk s' v' e2 hs').symm
    · rw [e2, upd_same] at hs'; rw [upd_other _ _ e1] at hs
      injection hs' with hs'; subst hs'
      exact hblk s v e1 hs
    · rw [upd_other _ _ e1] at hs; rw [upd_other _ _ e2] at hs'
      exact h.apart s s' v v' hss hs hs'
end Go.Proofs.Ytkmcepeejleahaa.Q

namespace Go.Proofs.Ytkmcepeejleahaa.Q
open Go.RowKit Go.Proofs.YtkmcepeejleahaaW.PrintWords Go.Proofs.YtkmcepeejleahaaW.PrintLast Go.Proofs.Ytkmcepeejleahaa.M
set_option linter.unusedVariables false
set_option linter.unusedSimpArgs false

def okS (s : ByteArray) : Prop := s.size ≤ maxLen
def okE (es : List S40) : Prop := ∀ e ∈ es, okS e.f0 ∧ okS e.f1
theorem rd_mem40 {l : List S40} {i : Int} (h0 : 0 ≤ i) (h1 : i < (l.length : Int)) : rd_T40 l i ∈ l := by
  unfold rd_T40
  rw [List.getD_eq_getElem?_getD, List.getElem?_eq_getElem (show i.toNat < l.length by omega)]
  exact List.getElem_mem _
theorem take_snoc40 {l : List S40} {i : Int} (h0 : 0 ≤ i) (h1 : i < (l.length : Int)) : l.take (i + 1).toNat = l.take i.toNat ++ [rd_T40 l i] := by
  rw [show (i + 1).toNat = i.toNat + 1 by omega, List.take_succ_eq_append_getElem (by omega)]
  unfold rd_T40
  rw [List.getD_eq_getElem?_getD, List.getElem?_eq_getElem (show i.toNat < l.length by omega)]
  rfl
theorem zero23 (w : World) : (zeroValue 23).run Try.prog w = .ok (.slice none 0 0) w := by rw [Try.zeroValue23]

theorem NMap.drew {w : World} {base b n : Nat} {p : ByteArray → Option Value} {es : List S40} (h : NMap w base b n p es) : NMap w.drew base b n p es :=
  ⟨MapIs.drew h.map, h.none_, fun s v hs => ⟨Kd.R_drew (h.rows s v hs).1, (h.rows s v hs).2⟩, h.apart⟩
/-- a store into a map of strings, as one step of a region that draws its order -/
theorem sstore_step {P : Program} {ops : Array Oper} {o : Oper} {a : Act} {W : World} {Kc : Act → World → Prop} {Q : Exit → Act → World → Prop} (hw : Region.wanted o (yielded ops a.tmps) = true) (m x v : Operand) (t : TypeId) (hop : o.op = Op.mapUpdate t m x v)
    (k e : TypeId) (hk : P.underlying k = some .string) (ht : P.underlying t = some (.map k e)) (b n : Nat) (p : ByteArray → Option Value)
    (hm : a.eval m = .map (some b)) (h : SMap P k W b n p) (hn : n < maxLen) (s : ByteArray) (val : Value) (hx : a.eval x = .string s) (hv : a.eval v = val) (hs : s.size ≤ maxLen)
    (hK : ∀ w', SMap P k w' b (n + 1) (upd p s val) → W.grownBy w' (some b) → w'.heap.size = W.heap.size → Kc (a.put o.dst undef) w') :
    if Region.wanted o (yielded ops a.tmps) = true then Oper.wp P o a W Kc Q else Kc (a.put o.dst undef) W := by
  rw [if_pos hw]
  obtain ⟨w', hrun, r1, r2, r3⟩ := MapIs.update h (Go.Maps.string_keyed hk) ht hn (WideMaps.keyOf_string_mk hk hs) val
  unfold Oper.wp
  simp [execOp, hop, hm, hx, hv, hrun, Result.andThen]
  exact hK w' (MapIs.congr r1 (sf_put p s val)) r2 r3

set_option maxHeartbeats 2000000 in
theorem table_calls (A0 : Option Addr) (c0 : Nat) (es : List S40) (w : World) (hr0 : Kd.C k40 w A0 es.length es) (hl : es.length ≤ 1000000) (hok : okE es) :
    Calls Try.prog 34 #[.slice A0 es.length c0] w fun e w' => ∃ p, e = .returned (.map (some w.heap.size)) ∧ NMap w' w.heap.size w.heap.size es.length p es ∧ Below w.heap.size w w' := by
  have hmm := @run_makeMap Try.prog
  have HR0 := Aside0.mk hr0
  have HOK := Aside0.mk hok
  clear hr0 hok
  go_enter Try.func34, Try.ntmps34
  go_wp2
  go_loopw [9] (fun v9 wr => ∃ (i : Int) (p : ByteArray → Option Value), v9 = .int .i64 i ∧ Aside0 (0 ≤ i ∧ i ≤ es.length) ∧ Aside0 (NMap wr w.heap.size w.heap.size i.toNat p (es.take i.toNat)) ∧ Aside0 (Below w.heap.size w wr)) (fun v9 _ => es.length - (intOf v9).toNat)
  case atStart => exact ⟨0, _, rfl, ⟨by omega⟩, ⟨NMap.made _ _⟩, ⟨(Below.refl _ _).alloc (Nat.le_refl _) _⟩⟩
  case round =>
    obtain ⟨i, p, rfl, HI, HN, HB⟩ := hrel
    by_cases hlt : i < es.length
    · have p1 : 0 ≤ i := HI.out.1
      obtain ⟨ad, e, hx0, hx1⟩ := at_T40 HR0.out i p1 hlt
      cases e
      replace hx0 := (HB.out.cell (World.block_lt_of_cell? w _ hx0)).trans hx0
      replace hx1 := (HB.out.cell (World.block_lt_of_cell? w _ hx1)).trans hx1
      have HK := Aside0.mk (HOK.out _ (rd_mem40 p1 hlt))
      have HT := Aside0.mk (take_snoc40 p1 hlt)
      have hbs : w.heap.size ≤ wr.heap.size := HB.out.size
      go_wp2_with fail
      have HBX := Aside0.mk (World.alloc_heap_new wr (.cells #[.string (rd_T40 es i).f0, .string (rd_T40 es i).f1] 40))
      have HN2 : Aside0 (NMap (wr.alloc (.cells #[.string (rd_T40 es i).f0, .string (rd_T40 es i).f1] 40)) w.heap.size w.heap.size i.toNat p (es.take i.toNat)) := ⟨HN.out.grown (World.grownBy_alloc wr _ none) (by simp) (fun s v k _ _ => by simp)⟩
      have HB2 : Aside0 (Below w.heap.size w (wr.alloc (.cells #[.string (rd_T40 es i).f0, .string (rd_T40 es i).f1] 40))) := ⟨HB.out.alloc hbs _⟩
      generalize wr.alloc (.cells #[.string (rd_T40 es i).f0, .string (rd_T40 es i).f1] 40) = wa at HBX HN2 HB2 ⊢
      have q0 : wa.cell? ⟨wr.heap.size, 0, none⟩ = some (.string (rd_T40 es i).f0) := (blk_cell HBX.out 0).trans rfl
      have q1 : wa.cell? ⟨wr.heap.size, 1, none⟩ = some (.string (rd_T40 es i).f1) := (blk_cell HBX.out 1).trans rfl
      clear hx0 hx1 HN HB
      refine start_ (n := 12) (S := fun w' => w'.cell? ⟨wr.heap.size, 0, none⟩ = some (.string (rd_T40 es i).f0) ∧ w'.cell? ⟨wr.heap.size, 1, none⟩ = some (.string (rd_T40 es i).f1) ∧ SMap Try.prog 9 w' w.heap.size i.toNat p) (ds := [11]) #[false, false, false, false, false, false, false, false, false, false, false, false] (by kernel_rfl) rfl rfl ⟨q0, q1, HN2.out.map⟩ (fun hHeld => ?_)
      refine pure_ (i := 0) (N := some 13) (v := ?_) (a' := ?_) #[true, false, false, false, false, false, false, false, false, false, false, false] rfl rfl (by kernel_rfl) (fun _ _ _ h => h) (Or.inl ⟨by rfl, ?_⟩) ?_ ?_
      rotate_left
      · intro w'
        go_simp
        with_reducible rfl
      rotate_left
      · simp only [Act.put, List.setIfInBounds_toArray, List.set_cons_zero, List.set_cons_succ, i64_w, i32_w]
        rfl
      refine pure_ (i := 1) (N := some 14) (v := ?_) (a' := ?_) #[true, true, false, false, false, false, false, false, false, false, false, false] rfl rfl (by kernel_rfl) (fun _ _ _ h => h) (Or.inl ⟨by rfl, ?_⟩) ?_ ?_
      rotate_left
      · intro w'
        go_simp
        with_reducible rfl
      rotate_left
      · simp only [Act.put, List.setIfInBounds_toArray, List.set_cons_zero, List.set_cons_succ, i64_w, i32_w]
        rfl
      refine pure_ (i := 3) (N := some 16) (v := ?_) (a' := ?_) #[true, true, false, true, false, false, false, false, false, false, false, false] rfl rfl (by kernel_rfl) (fun _ _ _ h => h) (Or.inl ⟨by rfl, ?_⟩) ?_ ?_
      rotate_left
      · intro w'
        go_simp
        with_reducible rfl
      rotate_left
      · simp only [Act.put, List.setIfInBounds_toArray, List.set_cons_zero, List.set_cons_succ, i64_w, i32_w]
        rfl
      refine pure_ (i := 4) (N := some 17) (v := ?_) (a' := ?_) #[true, true, false, true, true, false, false, false, false, false, false, false] rfl rfl (by kernel_rfl) (fun _ _ _ h => h) (Or.inl ⟨by rfl, ?_⟩) ?_ ?_
      rotate_left
      · intro w'
        go_simp
        with_reducible rfl
      rotate_left
      · simp only [Act.put, List.setIfInBounds_toArray, List.set_cons_zero, List.set_cons_succ, i64_w, i32_w]
        rfl
      refine pure_ (i := 7) (N := some 20) (v := ?_) (a' := ?_) #[true, true, false, true, true, false, false, true, false, false, false, false] rfl rfl (by kernel_rfl) (fun _ _ _ h => h) (Or.inl ⟨by rfl, ?_⟩) ?_ ?_
      rotate_left
      · intro w'
        go_simp
        with_reducible rfl
      rotate_left
      · simp only [Act.put, List.setIfInBounds_toArray, List.set_cons_zero, List.set_cons_succ, i64_w, i32_w]
        rfl
      refine take_ (i := 2) (N := some 15) (v := ?_) (a' := ?_) #[true, true, true, true, true, false, false, true, false, false, false, false] rfl rfl (by kernel_rfl) (fun _ _ _ h => h) (Or.inl ⟨by rfl, ?_⟩) hHeld ?_ ?_
      rotate_left
      · rintro w' ⟨s0, s1, s2⟩
        go_simp
        with_reducible rfl
      rotate_left
      · simp only [Act.put, List.setIfInBounds_toArray, List.set_cons_zero, List.set_cons_succ, i64_w, i32_w]
        rfl
      refine take_ (i := 5) (N := some 18) (v := ?_) (a' := ?_) #[true, true, true, true, true, true, false, true, false, false, false, false] rfl rfl (by kernel_rfl) (fun _ _ _ h => h) (Or.inl ⟨by rfl, ?_⟩) hHeld ?_ ?_
      rotate_left
      · rintro w' ⟨s0, s1, s2⟩
        go_simp
        with_reducible rfl
      rotate_left
      · simp only [Act.put, List.setIfInBounds_toArray, List.set_cons_zero, List.set_cons_succ, i64_w, i32_w]
        rfl
      refine take_ (i := 8) (N := some 21) (v := ?_) (a' := ?_) #[true, true, true, true, true, true, false, true, true, false, false, false] rfl rfl (by kernel_rfl) (fun _ _ _ h => h) (Or.inl ⟨by rfl, ?_⟩) hHeld ?_ ?_
      rotate_left
      · rintro w' ⟨s0, s1, s2⟩
        go_simp
        with_reducible rfl
      rotate_left
      · simp only [Act.put, List.setIfInBounds_toArray, List.set_cons_zero, List.set_cons_succ, i64_w, i32_w]
        rfl
      refine take_ (i := 6) (N := some 19) (v := ?_) (a' := ?_) #[true, true, true, true, true, true, true, true, true, false, false, false] rfl rfl (by kernel_rfl) (fun _ _ _ h => h) (Or.inl ⟨by rfl, ?_⟩) hHeld ?_ ?_
      rotate_left
      · rintro w' ⟨s0, s1, s2⟩
        have hlk := SMap.look1 s2 Try.underlying9 Try.underlying52 (zero23 w') HK.out.1
        go_simp
        with_reducible rfl
      rotate_left
      · simp only [Act.put, List.setIfInBounds_toArray, List.set_cons_zero, List.set_cons_succ, i64_w, i32_w]
        rfl
      have HN3 : Aside0 (NMap wa.drew w.heap.size w.heap.size i.toNat p (es.take i.toNat)) := ⟨HN2.out.drew⟩
      have HB3 : Aside0 (Below w.heap.size w wa.drew) := ⟨below_drew1 HB2.out⟩
      have HBX3 : Aside0 (wa.drew.heap[wr.heap.size]? = some (.cells #[.string (rd_T40 es i).f0, .string (rd_T40 es i).f1] 40 (0, 0))) := ⟨HBX.out⟩
      generalize wa.drew = wb at HN3 HB3 HBX3 hHeld ⊢
      refine one_ (i := 9) (N := some 22) #[true, true, true, true, true, true, true, true, true, true, false, false] rfl rfl (by kernel_rfl) (by decide) (fun K hK => ?_)
      refine event_step (v := .slice (some ⟨wb.heap.size, 0, none⟩) 1 1) (w1 := wb.alloc (.cells #[.string (rd_T40 es i).f1] 9)) rfl (by first | (go_simp; done) | (go_simp; rfl)) ?_
      have HA : Below wb.heap.size wb (wb.alloc (.cells #[.string (rd_T40 es i).f1] 9)) := (Below.refl _ _).alloc (Nat.le_refl _) _
      refine hK.out _ _ ⟨(HA.cell (World.block_lt_of_cell? wb _ hHeld.1)).trans hHeld.1, (HA.cell (World.block_lt_of_cell? wb _ hHeld.2.1)).trans hHeld.2.1, MapIs.alloc hHeld.2.2 _⟩ (fun hHeld2 => ?_)
      clear hK K
      refine norm_ (a' := ?_) ?_ ?_
      rotate_left
      · show Act.put _ (some 22) _ = _
        simp only [Act.put, List.setIfInBounds_toArray, List.set_cons_zero, List.set_cons_succ, i64_w, i32_w]
        rfl
      refine one_ (i := 10) (N := some 23) #[true, true, true, true, true, true, true, true, true, true, true, false] rfl rfl (by kernel_rfl) (by decide) (fun K hK => ?_)
      refine Kd.R_append_step Kd.string (w0 := w) w.heap.size (by rfl) (.tmp 19) (.tmp 22) 23 9 (.string ⟨#[]⟩) 16 rfl Try.underlying23 info9 rfl (by decide) (by omega) ((p (rd_T40 es i).f0).getD (.slice none 0 0)) (needsL (es.take i.toNat) (rd_T40 es i).f0) (rd_T40 es i).f1 [.string (rd_T40 es i).f1] (fun k => k ≠ w.heap.size) (fun _ => False) rfl rfl rfl (fun _ hk => hk.elim) (fun k hk => by have := HN3.out.lt; omega) (HN3.out.row _) HB3.out HB3.out.size (by have := needsL_length (es.take i.toNat) (rd_T40 es i).f0; simp at this; omega) ?_
      intro v1 w1 hr hb hg hat
      have hbr : some w.heap.size ≠ ((p (rd_T40 es i).f0).getD (.slice none 0 0)).ownBlock := Kd.R_away (HN3.out.row _) (fun _ h => h)
      have HM1 : SMap Try.prog 9 w1 w.heap.size i.toNat p := MapIs.kept HN3.out.map hg hbr
      have hbx : ∀ (o : Nat) (u : Value), wb.cell? ⟨wr.heap.size, o, none⟩ = some u → w1.cell? ⟨wr.heap.size, o, none⟩ = some u := by
        intro o u hu
        have hne := Kd.R_ne (HN3.out.row (rd_T40 es i).f0) HBX3.out (by decide)
        exact hg.cell hu hne
      have HR := Aside0.mk hr
      have HBB := Aside0.mk hb
      have HG := Aside0.mk hg
      have HAT := Aside0.mk hat
      clear hr hb hg hat
      refine hK.out _ _ ⟨hbx 0 _ hHeld.1, hbx 1 _ hHeld.2.1, HM1⟩ (fun hHeld3 => ?_)
      clear hK K
      refine norm_ (a' := ?_) ?_ ?_
      rotate_left
      · show Act.put _ (some 23) _ = _
        simp only [Act.put, List.setIfInBounds_toArray, List.set_cons_zero, List.set_cons_succ, i64_w, i32_w]
        rfl
      refine last_ (i := 11) (N := none) #[true, true, true, true, true, true, true, true, true, true, true, true] rfl rfl (by kernel_rfl) (by decide) (fun K hK => ?_)
      refine sstore_step rfl (.tmp 13) (.tmp 15) (.tmp 23) 52 rfl 9 23 Try.underlying9 Try.underlying52 w.heap.size i.toNat p rfl HM1 (by unfold maxLen; omega) (rd_T40 es i).f0 v1 rfl rfl HK.out.1 ?_
      intro w2 hm2 hg2 hz2
      have HN4 := Aside0.mk (HN3.out.step HR.out HG.out HAT.out hm2 hg2)
      have HB4 := Aside0.mk (HBB.out.grown hg2 HBB.out.size (fun k e => by cases e; exact Nat.le_refl _))
      clear hm2 hg2 hz2
      refine hK.out _ _ ?_
      clear hK K
      refine done_ (by kernel_rfl) ?_
      go_wp2
      go_roundw
      case rel => exact ⟨i + 1, _, rfl, ⟨by omega⟩, ⟨by rw [HT.out, show (i + 1).toNat = i.toNat + 1 by omega]; exact HN4.out⟩, HB4⟩
      case measure => simp [intOf]; omega
    · have hi : i = es.length := by have := HI.out; omega
      have HN2 : Aside0 (NMap wr w.heap.size w.heap.size es.length p es) := ⟨by have := HN.out; rw [hi] at this; simpa using this⟩
      clear HN hi
      go_wp2
      go_ret
      exact ⟨rfl, ⟨p, HN2.out⟩, HB.out⟩
end Go.Proofs.Ytkmcepeejleahaa.Q
