/-
  The walk of graph.Cyclic. No condition beyond those that stand in it.
-/
import Derived.Test.YtkmcepeejleahaaHN
namespace Go.Proofs.Ytkmcepeejleahaa.Q
open Go.RowKit Go.Proofs.YtkmcepeejleahaaW.PrintWords Go.Proofs.YtkmcepeejleahaaW.PrintLast Go.Proofs.Ytkmcepeejleahaa.M
set_option linter.unusedVariables false
set_option linter.unusedSimpArgs false

theorem take_snocS {l : List ByteArray} {i : Int} (h0 : 0 ≤ i) (h1 : i < l.length) : l.take (i + 1).toNat = l.take i.toNat ++ [rdOf ByteArray.empty l i] := by
  rw [show (i + 1).toNat = i.toNat + 1 by omega, List.take_succ_eq_append_getElem (by omega)]
  simp [rdOf, List.getD_eq_getElem?_getD, List.getElem?_eq_getElem (show i.toNat < l.length by omega)]
theorem filter_next {l : List ByteArray} (q : ByteArray → Bool) {i : Int} (h0 : 0 ≤ i) (h1 : i < l.length) : (l.take (i + 1).toNat).filter q = (l.take i.toNat).filter q ++ if q (rdOf ByteArray.empty l i) = true then [rdOf ByteArray.empty l i] else [] := by
  rw [take_snocS h0 h1, List.filter_append]
  by_cases h : q (rdOf ByteArray.empty l i) = true <;> simp [List.filter_cons, h]
theorem grownB_of {w w' : World} (hb : Below w.heap.size w w') : w.grownBy w' none := ⟨hb.os, hb.tape, hb.output, hb.size, fun k hk _ => hb.block k hk⟩
theorem NMap.below {w w1 : World} {base b n : Nat} {p : ByteArray → Option Value} {es : List S40} (h : NMap w base b n p es) (hb : Below w.heap.size w w1) : NMap w1 base b n p es := h.grown (grownB_of hb) (by simp) (fun s v k _ _ => by simp)
theorem below_new {W W' : World} {b : Nat} (h : Below b W W') {n : Nat} (hn : n ≤ b) : Below n W W' := h.mono hn

set_option maxHeartbeats 2000000 in
theorem graph_Cyclic.calls (A0 : Option Addr) (c0 : Nat) (l0 : List ByteArray) (A1 : Option Addr) (c1 : Nat) (l1 : List S40) (r : List ByteArray) (w : World) (hr0 : Kd.C Kd.string w A0 l0.length l0) (hc0 : l0.length ≤ c0) (hr1 : Kd.C k40 w A1 l1.length l1) (hc1 : l1.length ≤ c1) (h : graph_Cyclic.f l0 l1 = some r) :
    Calls Try.prog 15 #[.slice A0 l0.length c0, .slice A1 l1.length c1] w fun e w' => ∃ v0_ : Value, e = .returned (v0_) ∧ Kd.R Kd.string 9 w' w.heap.size (fun _ => True) v0_ r ∧ Below w.heap.size w w' := by
  obtain ⟨⟨⟨hl, hok⟩, hl1, hok1⟩, rfl⟩ := grd_some h
  have HOK := Aside0.mk hok
  have HOK1 := Aside0.mk hok1
  have HR0 := Aside0.mk hr0
  have k1 := table_calls A1 c1 l1 w hr1 hl1 hok1
  clear h hok hok1 hr0 hr1
  go_enter Try.func15, Try.ntmps15
  go_wp2_with (first | (go_at_call 34; refine k1.mono ?_; rintro e w1 ⟨p, rfl, hn, hb⟩; have HN := Aside0.mk hn; have HB := Aside0.mk hb; clear hn hb) | (go_at_call 23; refine (values_calls A0 _ c0 w1).mono ?_; rintro e w2 ⟨rfl, rfl⟩) | (go_at_call 22; refine (sorted_calls w1.heap.size _ l0 (by omega) _ (by simp) (World.cell?_alloc_new _ _ _ _) (strs_of_C (Kd.C_alloc (Kd.C_below HR0.out HB.out) _) c0)).mono ?_; rintro e w3 ⟨v3, rfl, ho, hb⟩; have HO := Aside0.mk ho; have HB3 := Aside0.mk hb; clear ho hb) | (go_at_call 24; refine (compact_row v3 _ _ _ _ HO.out (by rw [sortL_length]; omega)).mono ?_; rintro e w4 ⟨v4, rfl, ho, hg⟩; rw [compact_sortL] at ho; obtain ⟨A4, c4, e4⟩ := Kd.R_slice ho; subst e4; have HO4 := Aside0.mk ho; have HG4 := Aside0.mk hg; clear ho hg))
  have HSL : Aside0 ((sortD l0).length ≤ 1000000) := ⟨Nat.le_trans (sortD_length l0) hl⟩
  have HBA : Aside0 (Below w.heap.size w (w1.alloc (.cells #[.slice A0 l0.length c0] 23))) := ⟨HB.out.alloc HB.out.size _⟩
  have HS1 : Aside0 (w.heap.size < (w1.alloc (.cells #[.slice A0 l0.length c0] 23)).heap.size) := ⟨by have := HB.out.size; simp; omega⟩
  have HB5 : Aside0 (Below w.heap.size w w4) := ⟨((HBA.out.trans (HB3.out.mono (Nat.le_of_lt HS1.out)))).grown HG4.out (Nat.le_trans (Nat.le_of_lt HS1.out) HB3.out.size) (fun k e => Nat.le_trans (Nat.le_of_lt HS1.out) (Kd.R_base HO.out k e))⟩
  have HN5 : Aside0 (NMap w4 w.heap.size w.heap.size l1.length p l1) := ⟨by
    have h1 := (HN.out.grown (World.grownBy_alloc w1 (.cells #[.slice A0 l0.length c0] 23) none) (by simp) (fun s v k _ _ => by simp))
    have h2 := h1.below HB3.out
    refine h2.grown HG4.out (fun e => ?_) (fun s v k hs hk e => ?_)
    · have := Kd.R_base HO.out _ e.symm
      have := HS1.out
      have := h1.lt
      omega
    · have := Kd.R_base HO.out _ e.symm
      have := Kd.R_lt (h1.rows s v hs).1 k hk
      omega⟩
  have HO5 : Aside0 (Kd.C Kd.string w4 A4 (sortD l0).length (sortD l0)) := ⟨(Kd.R_reads' HO4.out).2.2⟩
  have HW4 : Aside0 (w.heap.size ≤ w4.heap.size) := ⟨HB5.out.size⟩
  have HOKS : Aside0 (∀ x ∈ sortD l0, okS x) := ⟨fun x hx => HOK.out x (mem_sortD.1 hx)⟩
  have HCF : Aside0 (cycF l0 l1 = (sortD l0).filter fun n => reachB l1 n n) := ⟨rfl⟩
  clear HN HB HO HB3 HG4 HO4 HBA HS1 HR0 HOK k1
  generalize sortD l0 = zs at HSL HO5 HOKS HCF ⊢
  go_loopw [5, 16] (fun v5 v16 wr => ∃ (i : Int), v16 = .int .i64 i ∧ Aside0 (0 ≤ i ∧ i ≤ zs.length) ∧ Aside0 (Kd.R Kd.string 9 wr w4.heap.size (fun _ => True) v5 ((zs.take i.toNat).filter fun n => reachB l1 n n)) ∧ Aside0 (Below w4.heap.size w4 wr)) (fun _ v16 _ => zs.length - (intOf v16).toNat)
  case atStart => exact ⟨0, rfl, ⟨by omega⟩, ⟨by simpa using Kd.R_nil _ _ _ _ _⟩, ⟨Below.refl _ _⟩⟩
  case round =>
    obtain ⟨i, rfl, HI, HO, HB⟩ := hrel
    by_cases hlt : i < zs.length
    · have p1 : 0 ≤ i := HI.out.1
      have hsl := HSL.out
      obtain ⟨ad, e, hx⟩ := Kd.at_string HO5.out i p1 hlt
      cases e
      replace hx := (HB.out.cell (World.block_lt_of_cell? w4 _ hx)).trans hx
      have HX := Aside0.mk (HOKS.out _ (rdS_mem p1 hlt))
      have HNX := Aside0.mk (filter_next (fun n => reachB l1 n n) p1 hlt)
      generalize rdOf ByteArray.empty zs i = x at hx HX HNX
      have HNr : Aside0 (NMap wr w.heap.size w.heap.size l1.length p l1) := ⟨HN5.out.below HB.out⟩
      have HBS := Aside0.mk HB.out.size
      by_cases hq : reachB l1 x x = true
      · have HQ := Aside0.mk hq
        have HFI : Aside0 (((zs.take (i + 1).toNat).filter fun n => reachB l1 n n) = ((zs.take i.toNat).filter fun n => reachB l1 n n) ++ [x]) := ⟨by rw [HNX.out, if_pos hq]⟩
        clear hq HNX
        go_wp2_with (first | (go_at_call 33; refine (reach_calls w.heap.size w.heap.size _ p l1 x wr HNr.out hl1 HOK1.out HX.out).mono ?_; rintro e w5 ⟨seen, rfl, hs, hr, hb⟩; have HS := Aside0.mk hs; have HSB : Aside0 ((bv seen x).getD (.bool false) = .bool true) := ⟨by rw [bv_get, (hr x).2 (reachB_iff.1 HQ.out)]⟩; have HB2 := Aside0.mk hb; clear hs hr hb) | (at_lookup; refine slookup_one _ rfl _ _ 53 rfl 9 4 Try.underlying9 Try.underlying53 _ (zero4 _) wr.heap.size _ (bv seen) rfl HS.out x rfl HX.out ?_; rw [HSB.out]) | (at_builtin; refine Kd.R_append Kd.string (w0 := w4) w4.heap.size rfl (.tmp 25) (.tmp 27) 23 9 (.string ⟨#[]⟩) 16 rfl Try.underlying23 info9 rfl (by decide) (by omega) u5 ((zs.take i.toNat).filter fun n => reachB l1 n n) x [.string x] (fun _ => True) (fun _ => False) rfl ?aX ?aP (fun _ hk => hk.elim) ?aF ?aO ?aB ?aS ?aL ?_))
        case aX => first | rfl | (go_simp; done)
        case aP => rfl
        case aF => intro q hq; trivial
        case aO => exact Kd.R_below HO.out HB2.out
        case aB => exact below_then HB.out HBS.out HB2.out
        case aS => have h1 := HBS.out; have h2 := HB2.out.size; omega
        case aL => have h1 := List.length_filter_le (fun n => reachB l1 n n) (zs.take i.toNat); have h2 := HSL.out; simp at h1 ⊢; omega
        intro v1 w6 ho hb hg hat
        have HO6 := Aside0.mk ho
        have HB6 := Aside0.mk hb
        clear ho hb hg hat
        go_wp2
        go_roundw
        case rel => exact ⟨i + 1, rfl, ⟨by omega⟩, ⟨by rw [HFI.out]; exact HO6.out⟩, HB6⟩
        case measure => simp [intOf]; omega
      · have hqf : reachB l1 x x = false := by simpa using hq
        have HQ := Aside0.mk hqf
        have HFI : Aside0 (((zs.take (i + 1).toNat).filter fun n => reachB l1 n n) = ((zs.take i.toNat).filter fun n => reachB l1 n n)) := ⟨by rw [HNX.out, if_neg hq, List.append_nil]⟩
        clear hq hqf HNX
        go_wp2_with (first | (go_at_call 33; refine (reach_calls w.heap.size w.heap.size _ p l1 x wr HNr.out hl1 HOK1.out HX.out).mono ?_; rintro e w5 ⟨seen, rfl, hs, hr, hb⟩; have HS := Aside0.mk hs; have HSB : Aside0 ((bv seen x).getD (.bool false) = .bool false) := ⟨by rw [bv_get]; congr 1; cases hc : seen x with | false => rfl | true => exact absurd (reachB_iff.2 ((hr x).1 hc)) (by rw [HQ.out]; simp)⟩; have HB2 := Aside0.mk hb; clear hs hr hb) | (at_lookup; refine slookup_one _ rfl _ _ 53 rfl 9 4 Try.underlying9 Try.underlying53 _ (zero4 _) wr.heap.size _ (bv seen) rfl HS.out x rfl HX.out ?_; rw [HSB.out]))
        go_roundw
        case rel => exact ⟨i + 1, rfl, ⟨by omega⟩, ⟨by rw [HFI.out]; exact Kd.R_below HO.out HB2.out⟩, ⟨below_then HB.out HBS.out HB2.out⟩⟩
        case measure => simp [intOf]; omega
    · have hi : i = zs.length := by have := HI.out; omega
      have HO2 : Aside0 (Kd.R Kd.string 9 wr w.heap.size (fun _ => True) u5 (zs.filter fun n => reachB l1 n n)) := ⟨by have := HO.out; rw [hi] at this; simp only [Int.toNat_natCast, List.take_length] at this; exact Kd.R_lower this HW4.out⟩
      clear hi HO
      go_wp2
      go_ret
      exact ⟨_, rfl, by rw [HCF.out]; exact HO2.out, HB5.out.trans (HB.out.mono HW4.out)⟩
end Go.Proofs.Ytkmcepeejleahaa.Q
