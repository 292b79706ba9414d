/-
  The walk of flagstonedata.Links. No condition beyond those that stand in it.
-/
import Derived.Test.YtmhcpaohligjaaaD3
import Derived.Outline
namespace Go.Proofs.Ytmhcpaohligjaaa.Q
open Go.RowKit Go.Proofs.YtmhcpaohligjaaaW.PrintWords Go.Proofs.YtmhcpaohligjaaaW.PrintLast Go.Proofs.Ytmhcpaohligjaaa.M
set_option linter.unusedVariables false
set_option linter.unusedSimpArgs false

set_option maxHeartbeats 2000000 in
theorem links_walk (A0 : Option Addr) (c0 : Nat) (l0 : List Int) (a1 : Bool) (r : List S28) (F : Nat) (w : World) (hr0 : Kd.C (Kd.int .u8) w A0 l0.length l0) (hl : l0.length ≤ 1000) (hu : ∀ x ∈ l0, 0 ≤ x ∧ x ≤ 255) (hf : linksN l0 a1 F 0 0 [] = some r) :
    Calls Try.prog 12 #[.slice A0 l0.length c0, .bool a1] w fun e w' => ∃ v0_ : Value, e = .returned (v0_) ∧ Kd.R k28 28 w' w.heap.size (fun _ => True) v0_ r ∧ Below w.heap.size w w' := by
  have HR0 := Aside0.mk hr0
  have HU := Aside0.mk hu
  have HF := Aside0.mk hf
  have HL := Aside0.mk hl
  have HI0 : Aside0 (IsS46 w (w.alloc (.cells #[.slice A0 l0.length c0, .int .i64 0] 46)) w.heap.size l0 0) := ⟨IsS46.new w w A0 c0 l0 0 (Below.refl _ _) hr0⟩
  clear hr0 hu hf hl
  go_enter Try.func12, Try.ntmps12
  go_wp2_with fail
  go_loopg [6, 7] F (fun kq v6 v7 wr => ∃ (i t : Int) (out : List S28), v7 = .int .i64 t ∧ Aside0 (linksN l0 a1 kq i t out = some r) ∧ Aside0 (0 ≤ i ∧ i ≤ l0.length) ∧ Aside0 (0 ≤ t ∧ t ≤ 2 * out.length ∧ out.length ≤ 30) ∧ Aside0 (IsS46 w wr w.heap.size l0 i) ∧ Aside0 (Kd.R k28 28 wr w.heap.size (fun k => k ≠ w.heap.size) v6 out) ∧ Aside0 (Below w.heap.size w wr))
  case atStart => exact ⟨0, 0, [], rfl, HF, ⟨by omega⟩, ⟨by simp⟩, HI0, ⟨Kd.R_nil _ _ _ _ _⟩, ⟨(Below.refl _ _).alloc (Nat.le_refl _) _⟩⟩
  case round =>
    clear HF HI0
    obtain ⟨i, t, out, rfl, HF, HI, HT, HS, HO, HB⟩ := hrel
    obtain ⟨A6, c6, e6⟩ := Kd.R_slice HO.out
    subst e6
    cases gk with
    | zero => exact absurd HF.out (by simp [linksN])
    | succ k1 =>
      by_cases hc : i < l0.length ∧ out.length < 30
      · obtain ⟨hc1, hc2⟩ := hc
        have HF2 := Aside0.mk ((show linksN l0 a1 (k1 + 1) i t out = _ from (by simp only [linksN]; rw [if_pos ⟨hc1, hc2⟩])).symm.trans HF.out)
        have hd1 : decide (i < (l0.length : Int)) = true := decide_eq_true hc1
        have hd2 : decide (out.length < 30) = true := decide_eq_true hc2
        obtain ⟨b1, b2, b3, b4⟩ := nextV_bound HU.out i 6 HI.out.1 HI.out.2 (by omega)
        obtain ⟨b5, b6, b7, b8⟩ := nextV_bound HU.out _ 6 b3 b4 (by omega)
        obtain ⟨b9, b10, b11, b12⟩ := nextV_bound HU.out _ 3 b7 b8 (by omega)
        have HN1 := Aside0.mk (next_f HL.out HU.out i 6 HI.out.1 HI.out.2 (by omega))
        have HN2 := Aside0.mk (next_f HL.out HU.out _ 6 b3 b4 (by omega))
        have HN3 := Aside0.mk (next_f HL.out HU.out _ 3 b7 b8 (by omega))
        have HS1 := Aside0.mk (id_f b1 b2)
        have HSB := Aside0.mk (second_bound a1 ⟨b1, b2⟩ ⟨b5, b6⟩)
        have HS2 := Aside0.mk (id_f HSB.out.1 HSB.out.2)
        have HN30 := HT.out
        generalize e1 : (nextV l0 i 6) = na at *
        obtain ⟨va, pa⟩ := na
        simp only at b1 b2 b3 b4 b5 b6 b7 b8 b9 b10 b11 b12 HN2 HN3 HS1 HSB HS2 HF2
        generalize e2 : (nextV l0 pa 6) = nb at *
        obtain ⟨vb, pb⟩ := nb
        simp only at b5 b6 b7 b8 b9 b10 b11 b12 HN3 HSB HS2 HF2
        generalize e3 : (nextV l0 pb 3) = nd at *
        obtain ⟨vd, pd⟩ := nd
        simp only at b9 b10 b11 b12 HF2
        clear e1 e2 e3 HF
        have tok1 : True := trivial
        have tok2 : True := trivial
        have tok3 : True := trivial
        go_upto_region 7 with (first | (go_at_call 29; refine (flagstonedata_Source_More.calls _ _ _ _ _ w _ HS.out HB.out (more_f _ _)).mono ?_; rintro e w1 ⟨rfl, hi, hb, hk⟩; have HSm := Aside0.mk hi; have HBm := Aside0.mk hb; have HOm := Aside0.mk (Kd.R_keep HO.out hk (fun k h => h)); clear hi hb hk) | (go_at_call 30; have _t := tok1; clear tok1; refine (flagstonedata_Source_Next.calls _ _ _ _ _ _ w _ HSm.out HBm.out HN1.out).mono ?_; rintro e w2 ⟨rfl, hi, hb, hk⟩; have HSa := Aside0.mk hi; have HBa := Aside0.mk hb; have HOa := Aside0.mk (Kd.R_keep HOm.out hk (fun k h => h)); clear hi hb hk) | (go_at_call 30; have _t := tok2; clear tok2; refine (flagstonedata_Source_Next.calls _ _ _ _ _ _ w _ HSa.out HBa.out HN2.out).mono ?_; rintro e w3 ⟨rfl, hi, hb, hk⟩; have HSb := Aside0.mk hi; have HBb := Aside0.mk hb; have HOb := Aside0.mk (Kd.R_keep HOa.out hk (fun k h => h)); clear hi hb hk) | (go_at_call 30; have _t := tok3; clear tok3; refine (flagstonedata_Source_Next.calls _ _ _ _ _ _ w _ HSb.out HBb.out HN3.out).mono ?_; rintro e w4 ⟨rfl, hi, hb, hk⟩; have HSd := Aside0.mk hi; have HBd := Aside0.mk hb; have HOd := Aside0.mk (Kd.R_keep HOb.out hk (fun k h => h)); clear hi hb hk))
        have tok1 : True := trivial
        by_cases hab : va = vb
        · have hq : (va == vb) = true := by simpa using hab
          cases a1 with
          | true =>
            have es : second true va vb = vb := by unfold second; rw [if_neg (by simp)]
            rw [es] at HS2 HF2
            clear es hab HSB
            go_wp2_with (first | (go_at_call 13; have _t := tok1; clear tok1; refine (flagstonedata_Id.calls _ _ _ HS1.out).mono ?_; rintro e w5 ⟨rfl, hb⟩; have HB5 := Aside0.mk hb; have HO5 := Aside0.mk (Kd.R_below HOd.out hb); have HS5 := Aside0.mk (HSd.out.below hb); have HW5 := Aside0.mk (below_then HBd.out HBd.out.size hb); clear hb) | (go_at_call 13; refine (flagstonedata_Id.calls _ _ _ HS2.out).mono ?_; rintro e w6 ⟨rfl, hb⟩; have HO6 := Aside0.mk (Kd.R_below HO5.out hb); have HS6 := Aside0.mk (HS5.out.below hb); have HW6 := Aside0.mk (below_then HW5.out HW5.out.size hb); clear hb) | (at_builtin; refine Kd.R_append k28 (w0 := w) w.heap.size rfl (.tmp 38) (.tmp 45) 24 28 (.agg #[(.string ⟨#[]⟩), (.string ⟨#[]⟩), (.int .i64 0)]) 40 rfl Try.underlying24 info28 rfl (by decide) (by omega) (.slice A6 out.length c6) out ⟨idN va, idN vb, t + vd⟩ [.string (idN va), .string (idN vb), .int .i64 (t + vd)] (fun k => k ≠ w.heap.size) (fun _ => False) rfl ?aX ?aP (fun _ hk => hk.elim) ?aF ?aO ?aB ?aS ?aL ?_))
            case aX => first | rfl | (go_simp; done)
            case aP => exact k28_mkM _ _ _ (⟨idN va, idN vb, t + vd⟩ : S28)
            case aF => exact HS6.out.fresh
            case aO => exact HO6.out
            case aB => exact HW6.out
            case aS => exact HW6.out.size
            case aL => omega
            intro v1 w7 ho hb hg hat
            have HO7 := Aside0.mk ho
            have HW7 := Aside0.mk hb
            have HS7 := Aside0.mk (HS6.out.grown hg (fun e => HO6.out.1 _ e.symm rfl))
            clear ho hb hg hat
            go_wp2
            go_roundg k1
            case measure => omega
            case rel => exact ⟨pd, t + vd, _, rfl, HF2, ⟨b11, b12⟩, ⟨by simp; omega⟩, HS7, HO7, HW7⟩
          | false =>
            have es : second false va vb = (va + 1) % 6 := by unfold second; rw [if_pos ⟨hab, rfl⟩]
            rw [es] at HS2 HF2
            clear es hab HSB
            go_wp2_with (first | (go_at_call 13; have _t := tok1; clear tok1; refine (flagstonedata_Id.calls _ _ _ HS1.out).mono ?_; rintro e w5 ⟨rfl, hb⟩; have HB5 := Aside0.mk hb; have HO5 := Aside0.mk (Kd.R_below HOd.out hb); have HS5 := Aside0.mk (HSd.out.below hb); have HW5 := Aside0.mk (below_then HBd.out HBd.out.size hb); clear hb) | (go_at_call 13; refine (flagstonedata_Id.calls _ _ _ HS2.out).mono ?_; rintro e w6 ⟨rfl, hb⟩; have HO6 := Aside0.mk (Kd.R_below HO5.out hb); have HS6 := Aside0.mk (HS5.out.below hb); have HW6 := Aside0.mk (below_then HW5.out HW5.out.size hb); clear hb) | (at_builtin; refine Kd.R_append k28 (w0 := w) w.heap.size rfl (.tmp 38) (.tmp 45) 24 28 (.agg #[(.string ⟨#[]⟩), (.string ⟨#[]⟩), (.int .i64 0)]) 40 rfl Try.underlying24 info28 rfl (by decide) (by omega) (.slice A6 out.length c6) out ⟨idN va, idN ((va + 1) % 6), t + vd⟩ [.string (idN va), .string (idN ((va + 1) % 6)), .int .i64 (t + vd)] (fun k => k ≠ w.heap.size) (fun _ => False) rfl ?aX ?aP (fun _ hk => hk.elim) ?aF ?aO ?aB ?aS ?aL ?_))
            case aX => first | rfl | (go_simp; done)
            case aP => exact k28_mkM _ _ _ (⟨idN va, idN ((va + 1) % 6), t + vd⟩ : S28)
            case aF => exact HS6.out.fresh
            case aO => exact HO6.out
            case aB => exact HW6.out
            case aS => exact HW6.out.size
            case aL => omega
            intro v1 w7 ho hb hg hat
            have HO7 := Aside0.mk ho
            have HW7 := Aside0.mk hb
            have HS7 := Aside0.mk (HS6.out.grown hg (fun e => HO6.out.1 _ e.symm rfl))
            clear ho hb hg hat
            go_wp2
            go_roundg k1
            case measure => omega
            case rel => exact ⟨pd, t + vd, _, rfl, HF2, ⟨b11, b12⟩, ⟨by simp; omega⟩, HS7, HO7, HW7⟩
        · have hq : (va == vb) = false := by simpa using hab
          have es : second a1 va vb = vb := by unfold second; rw [if_neg (fun h => hab h.1)]
          rw [es] at HS2 HF2
          clear es hab HSB
          go_wp2_with (first | (go_at_call 13; have _t := tok1; clear tok1; refine (flagstonedata_Id.calls _ _ _ HS1.out).mono ?_; rintro e w5 ⟨rfl, hb⟩; have HB5 := Aside0.mk hb; have HO5 := Aside0.mk (Kd.R_below HOd.out hb); have HS5 := Aside0.mk (HSd.out.below hb); have HW5 := Aside0.mk (below_then HBd.out HBd.out.size hb); clear hb) | (go_at_call 13; refine (flagstonedata_Id.calls _ _ _ HS2.out).mono ?_; rintro e w6 ⟨rfl, hb⟩; have HO6 := Aside0.mk (Kd.R_below HO5.out hb); have HS6 := Aside0.mk (HS5.out.below hb); have HW6 := Aside0.mk (below_then HW5.out HW5.out.size hb); clear hb) | (at_builtin; refine Kd.R_append k28 (w0 := w) w.heap.size rfl (.tmp 38) (.tmp 45) 24 28 (.agg #[(.string ⟨#[]⟩), (.string ⟨#[]⟩), (.int .i64 0)]) 40 rfl Try.underlying24 info28 rfl (by decide) (by omega) (.slice A6 out.length c6) out ⟨idN va, idN vb, t + vd⟩ [.string (idN va), .string (idN vb), .int .i64 (t + vd)] (fun k => k ≠ w.heap.size) (fun _ => False) rfl ?aX ?aP (fun _ hk => hk.elim) ?aF ?aO ?aB ?aS ?aL ?_))
          case aX => first | rfl | (go_simp; done)
          case aP => exact k28_mkM _ _ _ (⟨idN va, idN vb, t + vd⟩ : S28)
          case aF => exact HS6.out.fresh
          case aO => exact HO6.out
          case aB => exact HW6.out
          case aS => exact HW6.out.size
          case aL => omega
          intro v1 w7 ho hb hg hat
          have HO7 := Aside0.mk ho
          have HW7 := Aside0.mk hb
          have HS7 := Aside0.mk (HS6.out.grown hg (fun e => HO6.out.1 _ e.symm rfl))
          clear ho hb hg hat
          go_wp2
          go_roundg k1
          case measure => omega
          case rel => exact ⟨pd, t + vd, _, rfl, HF2, ⟨b11, b12⟩, ⟨by simp; omega⟩, HS7, HO7, HW7⟩
      · have e1 : out = r := by have := HF.out; simp only [linksN] at this; rw [if_neg hc] at this; simpa using this
        subst e1
        have tok1 : True := trivial
        by_cases hi : i < l0.length
        · have hd1 : decide (i < (l0.length : Int)) = true := decide_eq_true hi
          have hd2 : 30 ≤ out.length := by omega
          clear hc HF hi
          go_wp2_with (first | (go_at_call 29; refine (flagstonedata_Source_More.calls _ _ _ _ _ w _ HS.out HB.out (more_f _ _)).mono ?_; rintro e w1 ⟨rfl, hi, hb, hk⟩; have HBm := Aside0.mk hb; have HOm := Aside0.mk (Kd.R_keep HO.out hk (fun k h => h)); clear hi hb hk))
          go_ret
          exact ⟨_, rfl, Kd.R_mono HOm.out (fun _ _ => trivial), HBm.out⟩
        · have hd1 : decide (i < (l0.length : Int)) = false := decide_eq_false hi
          clear hc HF hi
          go_wp2_with (first | (go_at_call 29; refine (flagstonedata_Source_More.calls _ _ _ _ _ w _ HS.out HB.out (more_f _ _)).mono ?_; rintro e w1 ⟨rfl, hi, hb, hk⟩; have HBm := Aside0.mk hb; have HOm := Aside0.mk (Kd.R_keep HO.out hk (fun k h => h)); clear hi hb hk))
          go_ret
          exact ⟨_, rfl, Kd.R_mono HOm.out (fun _ _ => trivial), HBm.out⟩

theorem flagstonedata_Links.calls (A0 : Option Addr) (c0 : Nat) (l0 : List Int) (a1 : Bool) (r : List S28) (w : World) (hr0 : Kd.C (Kd.int .u8) w A0 l0.length l0) (hc0 : l0.length ≤ c0) (h : flagstonedata_Links.f l0 a1 = some r) :
    Calls Try.prog 12 #[.slice A0 l0.length c0, .bool a1] w fun e w' => ∃ v0_ : Value, e = .returned (v0_) ∧ Kd.R k28 28 w' w.heap.size (fun _ => True) v0_ r ∧ Below w.heap.size w w' := by
  obtain ⟨u, hu, h⟩ := Option.bind_eq_some_iff.1 h
  obtain ⟨⟨h1, h2⟩, _⟩ := grd_some hu
  exact links_walk A0 c0 l0 a1 r _ w hr0 h1 h2 h
end Go.Proofs.Ytmhcpaohligjaaa.Q
