-- laid by wip/tools/qprint.py, a program of this session, out of the translation: nothing here is trusted: Lean checks it
import Derived.Test.YtmhcpaohligjaaaQ0
import Derived.Test.YtmhcpaohligjaaaQ2
import Derived.Test.YtmhcpaohligjaaaQ3
import Derived.Test.YtmhcpaohligjaaaH2
import Derived.Test.YtmhcpaohligjaaaH3
import Derived.Test.YtmhcpaohligjaaaH6
namespace Go.Proofs.Ytmhcpaohligjaaa.Q
open Go.RowKit Go.Proofs.YtmhcpaohligjaaaW.PrintWords Go.Proofs.YtmhcpaohligjaaaW.PrintLast Go.Proofs.YtmhcpaohligjaaaW.PrintMore
attribute [local go_sem] max2_int min2_int max_two min_two max_three min_three max_four min_four   -- for this text's walks alone
set_option linter.unusedVariables false
set_option linter.unusedSimpArgs false

/-! ### flagstonelaw26_IdentityOrder: function 6 -/
mutual
noncomputable def flagstonelaw26_IdentityOrder.l0 : Nat → Int → Int → List (S28) → List (S28) → Int → Option (Bool)
  | 0, _, _, _, _, _ => none
  | k + 1, x1, x2, x7, x8, x9 => if x9 ≥ 0 then (if 0 ≤ x9 then (if x9 < (x7.length : Int) then (if (Int.tmod (wrap64 (x9 + (wrap64 (x1)))) 3) = 0 then (if x8.length < 3518437208883 then ((some (x8 ++ [(⟨(rd_T28 x7 x9).f1, (rd_T28 x7 x9).f0, (rd_T28 x7 x9).f2⟩ : S28)] : List (S28))).bind fun y137 => (if (Int.tmod (wrap64 (x9 + (wrap64 (x2)))) 4) = 0 then (if y137.length < 3518437208883 then (flagstonelaw26_IdentityOrder.l0 k x1 x2 x7 (y137 ++ [(⟨(rd_T28 x7 x9).f1, (rd_T28 x7 x9).f0, (rd_T28 x7 x9).f2⟩ : S28)]) (wrap64 (x9 - 1))) else (none)) else (flagstonelaw26_IdentityOrder.l0 k x1 x2 x7 y137 (wrap64 (x9 - 1))))) else (none)) else (if x8.length < 3518437208883 then ((some (x8 ++ [(⟨(rd_T28 x7 x9).f0, (rd_T28 x7 x9).f1, (rd_T28 x7 x9).f2⟩ : S28)] : List (S28))).bind fun y143 => (if (Int.tmod (wrap64 (x9 + (wrap64 (x2)))) 4) = 0 then (if y143.length < 3518437208883 then (flagstonelaw26_IdentityOrder.l0 k x1 x2 x7 (y143 ++ [(⟨(rd_T28 x7 x9).f0, (rd_T28 x7 x9).f1, (rd_T28 x7 x9).f2⟩ : S28)]) (wrap64 (x9 - 1))) else (none)) else (flagstonelaw26_IdentityOrder.l0 k x1 x2 x7 y143 (wrap64 (x9 - 1))))) else (none))) else (none)) else (none)) else ((flagstonedata_Ids.f).bind fun t149 => (flagstonelaw26_IdentityOrder.l1 k x7 x8 t149 0))
noncomputable def flagstonelaw26_IdentityOrder.l1 : Nat → List (S28) → List (S28) → List ByteArray → Int → Option (Bool)
  | 0, _, _, _, _ => none
  | k + 1, x7, x8, x11, x12 => if x12 < (x11.length : Int) then (if 0 ≤ x12 then ((identity_Members.f x7 (rdOf ByteArray.empty x11 x12)).bind fun t153 => (if (t153.length : Int) = 0 then (none) else ((identity_Members.f x8 (rdOf ByteArray.empty x11 x12)).bind fun t157 => ((flagstoneref1_Same.f k t153 t157).bind fun t160 => (if t160 = true then ((identity_Forest.f x7).bind fun t161 => ((identity_Members.f t161 (rdOf ByteArray.empty x11 x12)).bind fun t165 => ((flagstoneref1_Same.f k t153 t165).bind fun t168 => (if t168 = true then ((identity_Root.f x8 (rdOf ByteArray.empty x11 x12)).bind fun t170 => (if 0 < (t153.length : Int) then (if t170.toList = (rdOf ByteArray.empty t153 0).toList then (flagstonelaw26_IdentityOrder.l1 k x7 x8 x11 (wrap64 (x12 + 1))) else (none)) else (none))) else (none))))) else (none)))))) else (none)) else (some true)
end
noncomputable def flagstonelaw26_IdentityOrder.f (k : Nat) (l0 : List Int) (a1 : Int) (a2 : Int) : Option (Bool) := (flagstonelaw26_awake.f k).bind fun t131 => (if t131 = true then (if (l0.length : Int) > 60 then (some true) else ((flagstonedata_Links.f l0 true).bind fun t132 => (flagstonelaw26_IdentityOrder.l0 k a1 a2 t132 ([] : List (S28)) (wrap64 ((t132.length : Int) - 1))))) else (none))
theorem flagstonelaw26_IdentityOrder.mono_l : ∀ k, (∀ y0 y1 y2 y3 y4, LeO (flagstonelaw26_IdentityOrder.l0 k y0 y1 y2 y3 y4) (flagstonelaw26_IdentityOrder.l0 (k + 1) y0 y1 y2 y3 y4)) ∧ (∀ y0 y1 y2 y3, LeO (flagstonelaw26_IdentityOrder.l1 k y0 y1 y2 y3) (flagstonelaw26_IdentityOrder.l1 (k + 1) y0 y1 y2 y3))
  | 0 => ⟨fun _ _ _ _ _ r h => by simp [flagstonelaw26_IdentityOrder.l0] at h, fun _ _ _ _ r h => by simp [flagstonelaw26_IdentityOrder.l1] at h⟩
  | k + 1 => by
    obtain ⟨ih0, ih1⟩ := flagstonelaw26_IdentityOrder.mono_l k
    refine ⟨?_, ?_⟩
    · intro y0 y1 y2 y3 y4
      unfold flagstonelaw26_IdentityOrder.l0
      repeat' first
      | (with_reducible exact ih0 _ _ _ _ _)
      | (with_reducible exact ih1 _ _ _ _)
      | (with_reducible exact flagstonelaw26_awake.mono _)
      | (with_reducible exact flagstoneref1_Same.mono _ _ _)
      | (with_reducible exact LeO.refl _)
      | (with_reducible exact LeO.none _)
      | (with_reducible refine LeO.ite ?_ ?_)
      | (with_reducible refine LeO.bind ?_ (fun _ => ?_))
      | exact ih0 _ _ _ _ _
      | exact ih1 _ _ _ _
      | exact flagstonelaw26_awake.mono _
      | exact flagstoneref1_Same.mono _ _ _
      | exact LeO.none _
      | refine LeO.ite ?_ ?_
      | refine LeO.bind ?_ (fun _ => ?_)
    · intro y0 y1 y2 y3
      unfold flagstonelaw26_IdentityOrder.l1
      repeat' first
      | (with_reducible exact ih0 _ _ _ _ _)
      | (with_reducible exact ih1 _ _ _ _)
      | (with_reducible exact flagstonelaw26_awake.mono _)
      | (with_reducible exact flagstoneref1_Same.mono _ _ _)
      | (with_reducible exact LeO.refl _)
      | (with_reducible exact LeO.none _)
      | (with_reducible refine LeO.ite ?_ ?_)
      | (with_reducible refine LeO.bind ?_ (fun _ => ?_))
      | exact ih0 _ _ _ _ _
      | exact ih1 _ _ _ _
      | exact flagstonelaw26_awake.mono _
      | exact flagstoneref1_Same.mono _ _ _
      | exact LeO.none _
      | refine LeO.ite ?_ ?_
      | refine LeO.bind ?_ (fun _ => ?_)
theorem flagstonelaw26_IdentityOrder.mono : ∀ a0 a1 a2 k, LeO (flagstonelaw26_IdentityOrder.f k a0 a1 a2) (flagstonelaw26_IdentityOrder.f (k + 1) a0 a1 a2) := by
  intro a0 a1 a2 k
  obtain ⟨ih0, ih1⟩ := flagstonelaw26_IdentityOrder.mono_l k
  unfold flagstonelaw26_IdentityOrder.f
  repeat' first
      | (with_reducible exact ih0 _ _ _ _ _)
      | (with_reducible exact ih1 _ _ _ _)
      | (with_reducible exact flagstonelaw26_awake.mono _)
      | (with_reducible exact flagstoneref1_Same.mono _ _ _)
      | (with_reducible exact LeO.refl _)
      | (with_reducible exact LeO.none _)
      | (with_reducible refine LeO.ite ?_ ?_)
      | (with_reducible refine LeO.bind ?_ (fun _ => ?_))
      | exact ih0 _ _ _ _ _
      | exact ih1 _ _ _ _
      | exact flagstonelaw26_awake.mono _
      | exact flagstoneref1_Same.mono _ _ _
      | exact LeO.none _
      | refine LeO.ite ?_ ?_
      | refine LeO.bind ?_ (fun _ => ?_)
noncomputable def flagstonelaw26_IdentityOrder.T21 : Bool × List (List Nat × List Nat) := (true, [([], []), ([0], [0]), ([1], [1]), ([2], [2]), ([3], [3]), ([3], [3]), ([3], [3]), ([3], [3]), ([6, 7, 3], [3, 6, 7]), ([8, 3], [3, 8]), ([5, 9, 3, 3], [3, 5, 9]), ([4, 10, 10, 3], [3, 4, 10]), ([11, 3], [3, 11]), ([3, 12], [3, 12]), ([13, 11], [13]), ([14], [14]), ([14], [14]), ([16, 14, 14], [14, 16]), ([14], [14]), ([14], [14]), ([18, 19, 14], [14, 18, 19]), ([20, 14], [14, 20]), ([17, 21, 17, 14], [14, 17, 21]), ([15, 22, 22, 14], [14, 15, 22]), ([23, 14], [14, 23]), ([14, 24], [14, 24]), ([25, 23], [25]), ([26], [26]), ([26], [26]), ([26], [26]), ([28, 29, 26], [26, 28, 29]), ([30, 26], [26, 30]), ([27, 31, 26, 26], [26, 27, 31]), ([26], [26]), ([33, 26], [26, 33]), ([34, 26], [26, 34]), ([32, 35, 26], [26, 32, 35]), ([26, 36], [26, 36])])
noncomputable def flagstonelaw26_IdentityOrder.B21 : List Nat := [0, 1, 3, 7, 15, 15, 15, 15, 207, 463, 1007, 2047, 4095, 8191, 16383, 32767, 32767, 98303, 32767, 32767, 819199, 1867775, 4161535, 8388607, 16777215, 33554431, 67108863, 134217727, 134217727, 134217727, 939524095, 2013265919, 4294967295, 134217727, 8724152319, 25904021503, 68719476735, 137438953471]
theorem flagstonelaw26_IdentityOrder.tab21 : rtab .any (opsOf Try.f6 21) = flagstonelaw26_IdentityOrder.T21 := by kernel_rfl
theorem flagstonelaw26_IdentityOrder.bits21 : waitsOk flagstonelaw26_IdentityOrder.T21.2 flagstonelaw26_IdentityOrder.B21 = true := by kernel_rfl
set_option maxHeartbeats 8000000 in
set_option maxRecDepth 100000 in
theorem flagstonelaw26_IdentityOrder.calls (k : Nat) (A0 : Option Addr) (c0 : Nat) (l0 : List Int) (a1 : Int) (a2 : Int) (r : Bool) (w : World) (hr0 : Kd.C (Kd.int .u8) w A0 l0.length l0) (hc0 : l0.length ≤ c0) (h : flagstonelaw26_IdentityOrder.f k l0 a1 a2 = some r) :
    Calls Try.prog 6 #[.slice A0 l0.length c0, .int .u8 a1, .int .u8 a2] w fun e w' => e = .returned (.bool r) ∧ Below w.heap.size w w' := by
  have hu28 := Try.underlying28
  have HR0 := Aside0.mk hr0
  have HC0 := Aside0.mk hc0
  clear hr0 hc0
  have HB := Aside0.mk (Below.refl w.heap.size w)
  have H : ((flagstonelaw26_awake.f k).bind fun t131 => (if t131 = true then (if (l0.length : Int) > 60 then (some true) else ((flagstonedata_Links.f l0 true).bind fun t132 => (flagstonelaw26_IdentityOrder.l0 k a1 a2 t132 ([] : List (S28)) (wrap64 ((t132.length : Int) - 1))))) else (none))) = some r := h
  clear h
  replace H := Option.bind_eq_some_iff.mp H
  obtain ⟨t131, A40, H⟩ := H
  replace H : (if t131 = true then (if (l0.length : Int) > 60 then (some true) else ((flagstonedata_Links.f l0 true).bind fun t132 => (flagstonelaw26_IdentityOrder.l0 k a1 a2 t132 ([] : List (S28)) (wrap64 ((t132.length : Int) - 1))))) else (none)) = some r := H
  have A4 := Aside0.mk A40
  clear A40
  by_cases c5 : t131 = true
  · subst c5
    have H1 : (if (l0.length : Int) > 60 then (some true) else ((flagstonedata_Links.f l0 true).bind fun t132 => (flagstonelaw26_IdentityOrder.l0 k a1 a2 t132 ([] : List (S28)) (wrap64 ((t132.length : Int) - 1))))) = some r := by rw [if_pos rfl] at H; exact H
    clear H
    have H := H1
    clear H1
    by_cases c6 : (l0.length : Int) > 60
    · rw [if_pos c6] at H
      have c6b0 : decide (60 < (l0.length : Int)) = true := decide_eq_true c6
      have c6b1 : decide (60 < l0.length) = true := decide_eq_true (by omega)
      clear c6
      obtain rfl := Option.some.inj H
      go_enter Try.func6, Try.ntmps6
      go_wp2_with (first | ((with_reducible refine gate_callee (f := 11) rfl ?_); refine goesL_ (some 14) rfl rfl Try.func11 (by kernel_rfl) rfl #[] rfl (by (try simp only [List.map_toArray, List.map_cons, List.map_nil]); first | done | rfl | (simp only [List.length_drop, List.length_take]; rfl)) ?_; (with_reducible refine (flagstonelaw26_awake.calls k  true _ A4.out).mono ?_); rintro e w7 ⟨rfl, hb⟩; refine ⟨_, rfl, ?_⟩; have n0_ := Aside0.mk (below_step (by repeat (first | (with_reducible first | exact HB.out | apply below_alloc | apply pw_below_drewN | apply below_drew1) | exact HB.out)) hb); clear HB; have HB := n0_; clear n0_; (try clear hb); (try clear hb2); (try clear hk); (try clear hi)))
      go_ret
      exact ⟨by first | rfl | (simp [errW_none, errW_some] <;> rfl) | (simp [*, errW_none, errW_some] <;> rfl), by repeat (first | (with_reducible first | exact HB.out | apply below_alloc | apply pw_below_drewN | apply below_drew1) | exact HB.out)⟩
    · rw [if_neg c6] at H
      have c6b0 : decide (60 < (l0.length : Int)) = false := decide_eq_false c6
      have c6b1 : decide (60 < l0.length) = false := decide_eq_false (by omega)
      clear c6
      replace H := Option.bind_eq_some_iff.mp H
      obtain ⟨t132, A80, H⟩ := H
      replace H : (flagstonelaw26_IdentityOrder.l0 k a1 a2 t132 ([] : List (S28)) (wrap64 ((t132.length : Int) - 1))) = some r := H
      have A8 := Aside0.mk A80
      clear A80
      have H' := Aside0.mk H
      clear H
      go_enter Try.func6, Try.ntmps6
      go_wp2_with (first | ((with_reducible refine gate_callee (f := 11) rfl ?_); refine goesL_ (some 14) rfl rfl Try.func11 (by kernel_rfl) rfl #[] rfl (by (try simp only [List.map_toArray, List.map_cons, List.map_nil]); first | done | rfl | (simp only [List.length_drop, List.length_take]; rfl)) ?_; (with_reducible refine (flagstonelaw26_awake.calls k  true _ A4.out).mono ?_); rintro e w9 ⟨rfl, hb⟩; refine ⟨_, rfl, ?_⟩; have n0_ := Aside0.mk (below_step (by repeat (first | (with_reducible first | exact HB.out | apply below_alloc | apply pw_below_drewN | apply below_drew1) | exact HB.out)) hb); clear HB; have HB := n0_; clear n0_; (try clear hb); (try clear hb2); (try clear hk); (try clear hi)) | ((with_reducible refine gate_callee (f := 12) rfl ?_); refine goesL_ (some 20) rfl rfl Try.func12 (by kernel_rfl) rfl #[.slice A0 l0.length c0, .bool true] rfl (by (try simp only [List.map_toArray, List.map_cons, List.map_nil]); first | done | rfl | (simp only [List.length_drop, List.length_take]; rfl)) ?_; (with_reducible refine (flagstonedata_Links.calls _ _ l0 true t132 _ ?side1 ?side2 A8.out).mono ?_); (case side1 => repeat (first | exact (Kd.C_below HR0.out HB.out) | (with_reducible refine Kd.C_alloc ?_ _) | (with_reducible refine Kd.C_drewN ?_ _) | (with_reducible refine Kd.C_drew ?_))); (case side2 => exact HC0.out); rintro e w10 ⟨v133, rfl, ho0, hb⟩; refine ⟨_, rfl, ?_⟩; have n0_ := Aside0.mk (Kd.R_lower ho0 (below_size (by repeat (first | (with_reducible first | exact HB.out | apply below_alloc | apply pw_below_drewN | apply below_drew1) | exact HB.out)))); have n1_ := Aside0.mk (below_step (by repeat (first | (with_reducible first | exact HB.out | apply below_alloc | apply pw_below_drewN | apply below_drew1) | exact HB.out)) hb); clear HB; have HO134 := n0_; have HB := n1_; clear n0_ n1_; (try clear hb); (try clear hb2); (try clear hk); (try clear hi); (try clear ho0); obtain ⟨Ao11, co11, eo11⟩ := Kd.R_slice HO134.out; subst eo11))
      go_loopg [8, 9] k (fun kq v8 v9 w' => ∃ (x8_1 : List (S28)) (x9_1 : Int), v9 = .int .i64 x9_1 ∧ Aside0 (flagstonelaw26_IdentityOrder.l0 kq a1 a2 t132 x8_1 x9_1 = some r) ∧ Aside0 (kq ≤ k) ∧ Aside0 (Kd.R k28 28 w' w.heap.size (fun k_ => some k_ ≠ (v8 : Value).ownBlock) (.slice Ao11 t132.length co11) t132) ∧ Aside0 (Kd.R k28 28 w' w.heap.size (fun k_ => some k_ ≠ ((.slice Ao11 t132.length co11) : Value).ownBlock) v8 x8_1) ∧ Aside0 (Below w.heap.size w w'))
      case atStart => exact ⟨(([] : List (S28))), (wrap64 ((t132.length : Int) - 1)), (by first | rfl | (simp; done) | (simp [*]; done)), H', ⟨Nat.le_refl _⟩, ⟨by (with_reducible repeat (first | apply Kd.R_alloc | apply Kd.R_drewN | apply Kd.R_drew)); exact Kd.R_mono HO134.out (fun _ hk => (by simp [Value.ownBlock]))⟩, ⟨by first | exact Kd.R_nil _ _ _ _ _ | exact Kd.N_nil _ _ _ _ _ | exact Kd.V_nil _ _ _ _ _ | exact Kd.Q_nil _ _ _ _ _ | exact Kd.S_nil _ _ _ _ _⟩, ⟨by repeat (first | (with_reducible first | exact HB.out | apply below_alloc | apply pw_below_drewN | apply below_drew1) | exact HB.out)⟩⟩
      case round =>
        clear H'
        try clear c1
        try clear p2
        try clear c5
        try clear c6
        try clear c6b0
        try clear c6b1
        try clear p6
        try clear c11
        obtain ⟨x8_1, x9_1, rfl, HA, HK1, HO_7, HO_8, HB⟩ := hrel
        cases gk with
        | zero => exact absurd HA.out (by simp [flagstonelaw26_IdentityOrder.l0])
        | succ k1 =>
          have H := HA.out
          clear HA
          simp only [flagstonelaw26_IdentityOrder.l0] at H
          by_cases c12 : x9_1 ≥ 0
          · rw [if_pos c12] at H
            have c12b0 : decide (0 ≤ x9_1) = true := decide_eq_true c12
            clear c12
            by_cases c13 : 0 ≤ x9_1
            · rw [if_pos c13] at H
              have c13b0 : decide (0 ≤ x9_1) = true := decide_eq_true c13
              clear c13
              by_cases c14 : x9_1 < (t132.length : Int)
              · rw [if_pos c14] at H
                have c14b0 : decide (x9_1 < (t132.length : Int)) = true := decide_eq_true c14
                clear c14
                by_cases c15 : (Int.tmod (wrap64 (x9_1 + (wrap64 (a1)))) 3) = 0
                · rw [if_pos c15] at H
                  have c15b0 : ((Int.tmod (wrap64 (x9_1 + (wrap64 (a1)))) 3) == 0) = true := beq_iff_eq.mpr c15
                  have c15b1 : ((Int.tmod (wrap64 (x9_1 + (wrap64 (a1)))) 3) != 0) = false := bne_eq_false_iff_eq.mpr c15
                  clear c15
                  by_cases c16 : x8_1.length < 3518437208883
                  · rw [if_pos c16] at H
                    have LMc16 := Aside0.mk c16
                    clear c16
                    obtain ⟨y137, hy137⟩ : ∃ y_ : List (S28), y_ = (x8_1 ++ [(⟨(rd_T28 t132 x9_1).f1, (rd_T28 t132 x9_1).f0, (rd_T28 t132 x9_1).f2⟩ : S28)]) := ⟨_, rfl⟩
                    replace H : (if (Int.tmod (wrap64 (x9_1 + (wrap64 (a2)))) 4) = 0 then (if y137.length < 3518437208883 then (flagstonelaw26_IdentityOrder.l0 k1 a1 a2 t132 (y137 ++ [(⟨(rd_T28 t132 x9_1).f1, (rd_T28 t132 x9_1).f0, (rd_T28 t132 x9_1).f2⟩ : S28)]) (wrap64 (x9_1 - 1))) else (none)) else (flagstonelaw26_IdentityOrder.l0 k1 a1 a2 t132 y137 (wrap64 (x9_1 - 1)))) = some r := by first | (rw [hy137]; with_reducible exact H) | (have H2_ := (Option.bind_some _ _).symm.trans H; rw [hy137]; with_reducible exact H2_) | (have H2_ := (Option.bind_some _ _).symm.trans H; with_reducible exact H2_) | with_reducible exact H | (rw [hy137]; exact H) | exact H
                    have Ny137 := Aside0.mk hy137
                    clear hy137
                    by_cases c17 : (Int.tmod (wrap64 (x9_1 + (wrap64 (a2)))) 4) = 0
                    · rw [if_pos c17] at H
                      have c17b0 : ((Int.tmod (wrap64 (x9_1 + (wrap64 (a2)))) 4) == 0) = true := beq_iff_eq.mpr c17
                      have c17b1 : ((Int.tmod (wrap64 (x9_1 + (wrap64 (a2)))) 4) != 0) = false := bne_eq_false_iff_eq.mpr c17
                      clear c17
                      by_cases c18 : y137.length < 3518437208883
                      · rw [if_pos c18] at H
                        have LMc18 := Aside0.mk c18
                        clear c18
                        obtain ⟨y140, hy140⟩ : ∃ y_ : List (S28), y_ = (y137 ++ [(⟨(rd_T28 t132 x9_1).f1, (rd_T28 t132 x9_1).f0, (rd_T28 t132 x9_1).f2⟩ : S28)]) := ⟨_, rfl⟩
                        replace H : (flagstonelaw26_IdentityOrder.l0 k1 a1 a2 t132 y140 (wrap64 (x9_1 - 1))) = some r := by first | (rw [hy140]; with_reducible exact H) | (have H2_ := (Option.bind_some _ _).symm.trans H; rw [hy140]; with_reducible exact H2_) | (have H2_ := (Option.bind_some _ _).symm.trans H; with_reducible exact H2_) | with_reducible exact H | (rw [hy140]; exact H) | exact H
                        have Ny140 := Aside0.mk hy140
                        clear hy140
                        have H' := Aside0.mk H
                        clear H
                        have p135 : 0 ≤ (x9_1 : Int) := of_decide_eq_true (by first | (with_reducible assumption) | assumption)
                        have q135 : x9_1 < (t132.length : Int) := of_decide_eq_true (by first | (with_reducible assumption) | assumption)
                        obtain ⟨ad135, e135, hx135_0, hx135_1, hx135_2⟩ := at_T28 (Kd.R_reads' HO_7.out).2.2 x9_1 p135 q135
                        cases e135
                        replace p135 := eq_true p135
                        replace q135 := eq_true q135
                        go_upto_region 11 with ((with_reducible refine gate_dst (N := 10) rfl ?_); refine box_event ?hg (N := 10) ?hd (cs := #[.string (⟨#[]⟩ : ByteArray), .string (⟨#[]⟩ : ByteArray), .int .i64 0]) (t := 28) ?hr ?_; (case hd => rfl); (case hg => rfl); (case hr => first | (go_simp; done) | (go_simp; rfl)); intro gb136 hg w19 hbox hb; have n0_ := Aside0.mk (Kd.R_below (Kd.R_elderB (by (with_reducible repeat (first | apply Kd.R_alloc | apply Kd.R_drewN | apply Kd.R_drew)); exact HO_7.out) gb136 (Nat.le_of_eq hg.symm)) hb); have n1_ := Aside0.mk (Kd.R_below (Kd.R_elderB (by (with_reducible repeat (first | apply Kd.R_alloc | apply Kd.R_drewN | apply Kd.R_drew)); exact HO_8.out) gb136 (Nat.le_of_eq hg.symm)) hb); have n2_ := Aside0.mk (below_step (by repeat (first | (with_reducible first | exact HB.out | apply below_alloc | apply pw_below_drewN | apply below_drew1) | exact HB.out)) hb); have n3_ := Aside0.mk (hbox); have n4_ := Aside0.mk ((by rw [hg]; exact (below_size (by repeat (first | (with_reducible first | exact HB.out | apply below_alloc | apply pw_below_drewN | apply below_drew1) | exact HB.out))) : w.heap.size ≤ gb136)); have n5_ := Aside0.mk ((by rw [hg]; exact (below_size (by repeat (first | (with_reducible first | exact HB.out | apply below_alloc | apply pw_below_drewN | apply below_drew1) | exact HB.out))) : w.heap.size ≤ gb136)); clear HO_7; clear HO_8; clear HB; have HO_7 := n0_; have HO_8 := n1_; have HB := n2_; have BK136 := n3_; have GW136 := n4_; have GE136 := n5_; clear n0_ n1_ n2_ n3_ n4_ n5_; clear hb hbox hg; have hcz20_0 : w19.cell? ⟨gb136, 0, none⟩ = some (.string (⟨#[]⟩ : ByteArray)) := (blk_cell BK136.out 0).trans rfl; have hcz20_1 : w19.cell? ⟨gb136, 1, none⟩ = some (.string (⟨#[]⟩ : ByteArray)) := (blk_cell BK136.out 1).trans rfl; have hcz20_2 : w19.cell? ⟨gb136, 2, none⟩ = some (.int .i64 0) := (blk_cell BK136.out 2).trans rfl; have hfz20_0 := blk_frozen BK136.out 0; have hfz20_1 := blk_frozen BK136.out 1; have hfz20_2 := blk_frozen BK136.out 2)
                        try clear hcz20_0
                        try clear hcz20_1
                        try clear hcz20_2
                        try clear hfz20_0
                        try clear hfz20_1
                        try clear hfz20_2
                        obtain ⟨wq1, hwq⟩ : ∃ wq_ : World, wq_ = (World.setCell (World.setCell (World.setCell w19 { block := gb136, off := 0 } (.string ((rd_T28 t132 x9_1).f0))) { block := gb136, off := 1 } (.string ((rd_T28 t132 x9_1).f1))) { block := gb136, off := 2 } (.int .i64 ((rd_T28 t132 x9_1).f2))) := ⟨_, rfl⟩
                        have n0_ : Aside0 (Kd.R k28 28 wq1 w.heap.size (fun k_ => some k_ ≠ (u8 : Value).ownBlock ∧ k_ ≠ gb136) (.slice (some ad135) t132.length co11) t132) := ⟨by rw [hwq]; exact (Kd.R_far (p := ⟨gb136, 2, none⟩) (Kd.R_far (p := ⟨gb136, 1, none⟩) (Kd.R_far (p := ⟨gb136, 0, none⟩) HO_7.out (fun _ hk => hk.2) (.string ((rd_T28 t132 x9_1).f0))) (fun _ hk => hk.2) (.string ((rd_T28 t132 x9_1).f1))) (fun _ hk => hk.2) (.int .i64 ((rd_T28 t132 x9_1).f2)))⟩
                        have n1_ : Aside0 (Kd.R k28 28 wq1 w.heap.size (fun k_ => some k_ ≠ ((.slice (some ad135) t132.length co11) : Value).ownBlock ∧ k_ ≠ gb136) u8 x8_1) := ⟨by rw [hwq]; exact (Kd.R_far (p := ⟨gb136, 2, none⟩) (Kd.R_far (p := ⟨gb136, 1, none⟩) (Kd.R_far (p := ⟨gb136, 0, none⟩) HO_8.out (fun _ hk => hk.2) (.string ((rd_T28 t132 x9_1).f0))) (fun _ hk => hk.2) (.string ((rd_T28 t132 x9_1).f1))) (fun _ hk => hk.2) (.int .i64 ((rd_T28 t132 x9_1).f2)))⟩
                        have n2_ : Aside0 (Below w.heap.size w wq1) := ⟨by rw [hwq]; exact (below_set (below_set (below_set HB.out GE136.out) GE136.out) GE136.out)⟩
                        have n3_ : Aside0 (wq1.heap[gb136]? = some (.cells #[.string ((rd_T28 t132 x9_1).f0), .string ((rd_T28 t132 x9_1).f1), .int .i64 ((rd_T28 t132 x9_1).f2)] 28 (0, 0))) := ⟨by rw [hwq]; refine blk_put (cs := #[.string ((rd_T28 t132 x9_1).f0), .string ((rd_T28 t132 x9_1).f1), .int .i64 0]) ?_ 2 _ rfl; refine blk_put (cs := #[.string ((rd_T28 t132 x9_1).f0), .string (⟨#[]⟩ : ByteArray), .int .i64 0]) ?_ 1 _ rfl; refine blk_put (cs := #[.string (⟨#[]⟩ : ByteArray), .string (⟨#[]⟩ : ByteArray), .int .i64 0]) ?_ 0 _ rfl; exact BK136.out⟩
                        rw [← hwq]
                        clear HO_7 HO_8 HB BK136 hwq
                        have HO_7 := n0_
                        have HO_8 := n1_
                        have HB := n2_
                        have BK136 := n3_
                        clear n0_ n1_ n2_ n3_
                        have hczwq1_0 : wq1.cell? ⟨gb136, 0, none⟩ = some (.string ((rd_T28 t132 x9_1).f0)) := (blk_cell BK136.out 0).trans rfl
                        have hczwq1_1 : wq1.cell? ⟨gb136, 1, none⟩ = some (.string ((rd_T28 t132 x9_1).f1)) := (blk_cell BK136.out 1).trans rfl
                        have hczwq1_2 : wq1.cell? ⟨gb136, 2, none⟩ = some (.int .i64 ((rd_T28 t132 x9_1).f2)) := (blk_cell BK136.out 2).trans rfl
                        have hfzwq1_0 := blk_frozen BK136.out 0
                        have hfzwq1_1 := blk_frozen BK136.out 1
                        have hfzwq1_2 := blk_frozen BK136.out 2
                        go_upto_region 13 with fail
                        try clear hczwq1_0
                        try clear hczwq1_1
                        try clear hczwq1_2
                        try clear hfzwq1_0
                        try clear hfzwq1_1
                        try clear hfzwq1_2
                        obtain ⟨wq2, hwq⟩ : ∃ wq_ : World, wq_ = (World.setCell (World.setCell wq1 { block := gb136, off := 0 } (.string ((rd_T28 t132 x9_1).f1))) { block := gb136, off := 1 } (.string ((rd_T28 t132 x9_1).f0))) := ⟨_, rfl⟩
                        have n0_ : Aside0 (Kd.R k28 28 wq2 w.heap.size (fun k_ => some k_ ≠ (u8 : Value).ownBlock ∧ k_ ≠ gb136) (.slice (some ad135) t132.length co11) t132) := ⟨by rw [hwq]; exact (Kd.R_far (p := ⟨gb136, 1, none⟩) (Kd.R_far (p := ⟨gb136, 0, none⟩) HO_7.out (fun _ hk => hk.2) (.string ((rd_T28 t132 x9_1).f1))) (fun _ hk => hk.2) (.string ((rd_T28 t132 x9_1).f0)))⟩
                        have n1_ : Aside0 (Kd.R k28 28 wq2 w.heap.size (fun k_ => some k_ ≠ ((.slice (some ad135) t132.length co11) : Value).ownBlock ∧ k_ ≠ gb136) u8 x8_1) := ⟨by rw [hwq]; exact (Kd.R_far (p := ⟨gb136, 1, none⟩) (Kd.R_far (p := ⟨gb136, 0, none⟩) HO_8.out (fun _ hk => hk.2) (.string ((rd_T28 t132 x9_1).f1))) (fun _ hk => hk.2) (.string ((rd_T28 t132 x9_1).f0)))⟩
                        have n2_ : Aside0 (Below w.heap.size w wq2) := ⟨by rw [hwq]; exact (below_set (below_set HB.out GE136.out) GE136.out)⟩
                        have n3_ : Aside0 (wq2.heap[gb136]? = some (.cells #[.string ((rd_T28 t132 x9_1).f1), .string ((rd_T28 t132 x9_1).f0), .int .i64 ((rd_T28 t132 x9_1).f2)] 28 (0, 0))) := ⟨by rw [hwq]; refine blk_put (cs := #[.string ((rd_T28 t132 x9_1).f1), .string ((rd_T28 t132 x9_1).f1), .int .i64 ((rd_T28 t132 x9_1).f2)]) ?_ 1 _ rfl; refine blk_put (cs := #[.string ((rd_T28 t132 x9_1).f0), .string ((rd_T28 t132 x9_1).f1), .int .i64 ((rd_T28 t132 x9_1).f2)]) ?_ 0 _ rfl; exact BK136.out⟩
                        rw [← hwq]
                        clear HO_7 HO_8 HB BK136 hwq
                        have HO_7 := n0_
                        have HO_8 := n1_
                        have HB := n2_
                        have BK136 := n3_
                        clear n0_ n1_ n2_ n3_
                        have hczwq2_0 : wq2.cell? ⟨gb136, 0, none⟩ = some (.string ((rd_T28 t132 x9_1).f1)) := (blk_cell BK136.out 0).trans rfl
                        have hczwq2_1 : wq2.cell? ⟨gb136, 1, none⟩ = some (.string ((rd_T28 t132 x9_1).f0)) := (blk_cell BK136.out 1).trans rfl
                        have hczwq2_2 : wq2.cell? ⟨gb136, 2, none⟩ = some (.int .i64 ((rd_T28 t132 x9_1).f2)) := (blk_cell BK136.out 2).trans rfl
                        have hfzwq2_0 := blk_frozen BK136.out 0
                        have hfzwq2_1 := blk_frozen BK136.out 1
                        have hfzwq2_2 := blk_frozen BK136.out 2
                        go_wp2_with (first | ((with_reducible refine gate_builtin (b := .append) (xs := #[.tmp 44, .tmp 46]) rfl ?_); at_builtin; refine Kd.R_append k28 (w0 := w) w.heap.size rfl (.tmp 44) (.tmp 46) 24 28 (.agg #[(.string ⟨#[]⟩), (.string ⟨#[]⟩), (.int .i64 0)]) 40 rfl Try.underlying24 info28 rfl (by decide) (by omega) u8 x8_1 (⟨((rd_T28 t132 x9_1).f1), ((rd_T28 t132 x9_1).f0), ((rd_T28 t132 x9_1).f2)⟩ : S28) [.string ((rd_T28 t132 x9_1).f1), .string ((rd_T28 t132 x9_1).f0), .int .i64 ((rd_T28 t132 x9_1).f2)] (fun k_ => some k_ ≠ (.slice (some ad135) t132.length co11 : Value).ownBlock ∧ k_ ≠ gb136) (fun _ => False) rfl (by first | (go_simp; done) | (go_simp; rfl)) ?aP (fun _ hk => hk.elim) ?aF ?aO ?aB ?aS ?aL ?_; (case aP => exact k28_mkM _ _ _ (⟨((rd_T28 t132 x9_1).f1), ((rd_T28 t132 x9_1).f0), ((rd_T28 t132 x9_1).f2)⟩ : S28)); (case aB => exact HB.out); (case aF => exact (fun k_ hk => ⟨Kd.fresh' (Kd.R_lt HO_7.out) k_ hk, Kd.freshB (g := gb136) (o := .cells #[.string ((rd_T28 t132 x9_1).f1), .string ((rd_T28 t132 x9_1).f0), .int .i64 ((rd_T28 t132 x9_1).f2)] 28 (0, 0)) BK136.out k_ hk⟩)); (case aO => exact HO_8.out); (case aS => exact below_size HB.out); (case aL => have := LMc16.out; omega); intro v138 w21 ho hb hg hat; rw [← Ny137.out] at ho; have n0_ := Aside0.mk (Kd.R_after (ok := (fun k_ => k_ ≠ gb136)) (Kd.R_mono HO_7.out (fun _ hk => ⟨hk.2, hk.1⟩)) hg hat); have n1_ := Aside0.mk (blk_grown (g := gb136) (o := .cells #[.string ((rd_T28 t132 x9_1).f1), .string ((rd_T28 t132 x9_1).f0), .int .i64 ((rd_T28 t132 x9_1).f2)] 28 (0, 0)) BK136.out hg (Kd.R_away HO_8.out (fun _ hk => hk.2))); have n2_ := Aside0.mk (hb); have n3_ := Aside0.mk (ho); clear HO_7; clear BK136; clear HB; clear HO_8; have HO_7 := n0_; have BK136 := n1_; have HB := n2_; have HO139 := n3_; clear n0_ n1_ n2_ n3_; clear ho hb hg hat; have hczz_0 : w21.cell? ⟨gb136, 0, none⟩ = some (.string ((rd_T28 t132 x9_1).f1)) := (blk_cell BK136.out 0).trans rfl; have hczz_1 : w21.cell? ⟨gb136, 1, none⟩ = some (.string ((rd_T28 t132 x9_1).f0)) := (blk_cell BK136.out 1).trans rfl; have hczz_2 : w21.cell? ⟨gb136, 2, none⟩ = some (.int .i64 ((rd_T28 t132 x9_1).f2)) := (blk_cell BK136.out 2).trans rfl; have hfzz_0 := blk_frozen BK136.out 0; have hfzz_1 := blk_frozen BK136.out 1; have hfzz_2 := blk_frozen BK136.out 2) | ((with_reducible refine gate_builtin (b := .append) (xs := #[.tmp 54, .tmp 56]) rfl ?_); at_builtin; refine Kd.R_append k28 (w0 := w) w.heap.size rfl (.tmp 54) (.tmp 56) 24 28 (.agg #[(.string ⟨#[]⟩), (.string ⟨#[]⟩), (.int .i64 0)]) 40 rfl Try.underlying24 info28 rfl (by decide) (by omega) v138 y137 (⟨(rd_T28 t132 x9_1).f1, (rd_T28 t132 x9_1).f0, (rd_T28 t132 x9_1).f2⟩ : S28) [.string ((rd_T28 t132 x9_1).f1), .string ((rd_T28 t132 x9_1).f0), .int .i64 ((rd_T28 t132 x9_1).f2)] (fun k_ => some k_ ≠ (.slice (some ad135) t132.length co11 : Value).ownBlock ∧ k_ ≠ gb136) (fun _ => False) rfl rfl ?aP (fun _ hk => hk.elim) ?aF ?aO ?aB ?aS ?aL ?_; (case aP => exact k28_mkM _ _ _ (⟨(rd_T28 t132 x9_1).f1, (rd_T28 t132 x9_1).f0, (rd_T28 t132 x9_1).f2⟩ : S28)); (case aB => exact (by repeat (first | (with_reducible first | exact HB.out | apply below_alloc | apply pw_below_drewN | apply below_drew1 | refine below_set ?_ GE136.out) | exact HB.out))); (case aF => exact (fun k_ hk => ⟨Kd.fresh' (Kd.R_lt (by (with_reducible repeat (first | apply Kd.R_alloc | apply Kd.R_drewN | apply Kd.R_drew)); exact HO_7.out)) k_ hk, Kd.freshB (g := gb136) (o := .cells #[.string ((rd_T28 t132 x9_1).f1), .string ((rd_T28 t132 x9_1).f0), .int .i64 ((rd_T28 t132 x9_1).f2)] 28 (0, 0)) (by (with_reducible repeat (first | refine blk_drewN ?_ _ | refine blk_drew ?_ | refine blk_alloc ?_ _)); exact BK136.out) k_ hk⟩)); (case aO => exact (by (with_reducible repeat (first | apply Kd.R_alloc | apply Kd.R_drewN | apply Kd.R_drew)); exact HO139.out)); (case aS => exact (below_size (by repeat (first | (with_reducible first | exact HB.out | apply below_alloc | apply pw_below_drewN | apply below_drew1 | refine below_set ?_ GE136.out) | exact HB.out)))); (case aL => have := LMc18.out; omega); intro v141 w23 ho hb hg hat; rw [← Ny140.out] at ho; have n0_ := Aside0.mk (Kd.R_after (ok := (fun k_ => k_ ≠ gb136)) (by (with_reducible repeat (first | apply Kd.R_alloc | apply Kd.R_drewN | apply Kd.R_drew)); exact HO_7.out) hg hat); have n1_ := Aside0.mk (blk_grown (g := gb136) (o := .cells #[.string ((rd_T28 t132 x9_1).f1), .string ((rd_T28 t132 x9_1).f0), .int .i64 ((rd_T28 t132 x9_1).f2)] 28 (0, 0)) (by (with_reducible repeat (first | refine blk_drewN ?_ _ | refine blk_drew ?_ | refine blk_alloc ?_ _)); exact BK136.out) hg (Kd.R_away HO139.out (fun _ hk => hk.2))); have n2_ := Aside0.mk (hb); have n3_ := Aside0.mk (ho); clear HO_7; clear BK136; clear HB; clear HO139; have HO_7 := n0_; have BK136 := n1_; have HB := n2_; have HO142 := n3_; clear n0_ n1_ n2_ n3_; clear ho hb hg hat))
                        go_roundg k1
                        case measure => have := HK1.out; omega
                        case rel => exact ⟨(y140), (wrap64 (x9_1 - 1)), (by first | rfl | (simp; done) | (simp [*]; done)), H', ⟨by have := HK1.out; omega⟩, ⟨by (with_reducible repeat (first | apply Kd.R_alloc | apply Kd.R_drewN | apply Kd.R_drew)); exact Kd.R_mono HO_7.out (fun _ hk => hk.2)⟩, ⟨by (with_reducible repeat (first | apply Kd.R_alloc | apply Kd.R_drewN | apply Kd.R_drew)); exact Kd.R_mono HO142.out (fun _ hk => hk.1)⟩, ⟨by repeat (first | (with_reducible first | exact HB.out | apply below_alloc | apply pw_below_drewN | apply below_drew1 | refine below_set ?_ GE136.out) | exact HB.out)⟩⟩
                      · rw [if_neg c18] at H
                        exact absurd H (by simp)
                    · rw [if_neg c17] at H
                      have c17b0 : ((Int.tmod (wrap64 (x9_1 + (wrap64 (a2)))) 4) == 0) = false := beq_eq_false_iff_ne.mpr c17
                      have c17b1 : ((Int.tmod (wrap64 (x9_1 + (wrap64 (a2)))) 4) != 0) = true := bne_iff_ne.mpr c17
                      have H' := Aside0.mk H
                      clear H
                      have p135 : 0 ≤ (x9_1 : Int) := of_decide_eq_true (by first | (with_reducible assumption) | assumption)
                      have q135 : x9_1 < (t132.length : Int) := of_decide_eq_true (by first | (with_reducible assumption) | assumption)
                      obtain ⟨ad135, e135, hx135_0, hx135_1, hx135_2⟩ := at_T28 (Kd.R_reads' HO_7.out).2.2 x9_1 p135 q135
                      cases e135
                      replace p135 := eq_true p135
                      replace q135 := eq_true q135
                      go_upto_region 11 with ((with_reducible refine gate_dst (N := 10) rfl ?_); refine box_event ?hg (N := 10) ?hd (cs := #[.string (⟨#[]⟩ : ByteArray), .string (⟨#[]⟩ : ByteArray), .int .i64 0]) (t := 28) ?hr ?_; (case hd => rfl); (case hg => rfl); (case hr => first | (go_simp; done) | (go_simp; rfl)); intro gb136 hg w24 hbox hb; have n0_ := Aside0.mk (Kd.R_below (Kd.R_elderB (by (with_reducible repeat (first | apply Kd.R_alloc | apply Kd.R_drewN | apply Kd.R_drew)); exact HO_7.out) gb136 (Nat.le_of_eq hg.symm)) hb); have n1_ := Aside0.mk (Kd.R_below (Kd.R_elderB (by (with_reducible repeat (first | apply Kd.R_alloc | apply Kd.R_drewN | apply Kd.R_drew)); exact HO_8.out) gb136 (Nat.le_of_eq hg.symm)) hb); have n2_ := Aside0.mk (below_step (by repeat (first | (with_reducible first | exact HB.out | apply below_alloc | apply pw_below_drewN | apply below_drew1) | exact HB.out)) hb); have n3_ := Aside0.mk (hbox); have n4_ := Aside0.mk ((by rw [hg]; exact (below_size (by repeat (first | (with_reducible first | exact HB.out | apply below_alloc | apply pw_below_drewN | apply below_drew1) | exact HB.out))) : w.heap.size ≤ gb136)); have n5_ := Aside0.mk ((by rw [hg]; exact (below_size (by repeat (first | (with_reducible first | exact HB.out | apply below_alloc | apply pw_below_drewN | apply below_drew1) | exact HB.out))) : w.heap.size ≤ gb136)); clear HO_7; clear HO_8; clear HB; have HO_7 := n0_; have HO_8 := n1_; have HB := n2_; have BK136 := n3_; have GW136 := n4_; have GE136 := n5_; clear n0_ n1_ n2_ n3_ n4_ n5_; clear hb hbox hg; have hcz25_0 : w24.cell? ⟨gb136, 0, none⟩ = some (.string (⟨#[]⟩ : ByteArray)) := (blk_cell BK136.out 0).trans rfl; have hcz25_1 : w24.cell? ⟨gb136, 1, none⟩ = some (.string (⟨#[]⟩ : ByteArray)) := (blk_cell BK136.out 1).trans rfl; have hcz25_2 : w24.cell? ⟨gb136, 2, none⟩ = some (.int .i64 0) := (blk_cell BK136.out 2).trans rfl; have hfz25_0 := blk_frozen BK136.out 0; have hfz25_1 := blk_frozen BK136.out 1; have hfz25_2 := blk_frozen BK136.out 2)
                      try clear hcz25_0
                      try clear hcz25_1
                      try clear hcz25_2
                      try clear hfz25_0
                      try clear hfz25_1
                      try clear hfz25_2
                      obtain ⟨wq1, hwq⟩ : ∃ wq_ : World, wq_ = (World.setCell (World.setCell (World.setCell w24 { block := gb136, off := 0 } (.string ((rd_T28 t132 x9_1).f0))) { block := gb136, off := 1 } (.string ((rd_T28 t132 x9_1).f1))) { block := gb136, off := 2 } (.int .i64 ((rd_T28 t132 x9_1).f2))) := ⟨_, rfl⟩
                      have n0_ : Aside0 (Kd.R k28 28 wq1 w.heap.size (fun k_ => some k_ ≠ (u8 : Value).ownBlock ∧ k_ ≠ gb136) (.slice (some ad135) t132.length co11) t132) := ⟨by rw [hwq]; exact (Kd.R_far (p := ⟨gb136, 2, none⟩) (Kd.R_far (p := ⟨gb136, 1, none⟩) (Kd.R_far (p := ⟨gb136, 0, none⟩) HO_7.out (fun _ hk => hk.2) (.string ((rd_T28 t132 x9_1).f0))) (fun _ hk => hk.2) (.string ((rd_T28 t132 x9_1).f1))) (fun _ hk => hk.2) (.int .i64 ((rd_T28 t132 x9_1).f2)))⟩
                      have n1_ : Aside0 (Kd.R k28 28 wq1 w.heap.size (fun k_ => some k_ ≠ ((.slice (some ad135) t132.length co11) : Value).ownBlock ∧ k_ ≠ gb136) u8 x8_1) := ⟨by rw [hwq]; exact (Kd.R_far (p := ⟨gb136, 2, none⟩) (Kd.R_far (p := ⟨gb136, 1, none⟩) (Kd.R_far (p := ⟨gb136, 0, none⟩) HO_8.out (fun _ hk => hk.2) (.string ((rd_T28 t132 x9_1).f0))) (fun _ hk => hk.2) (.string ((rd_T28 t132 x9_1).f1))) (fun _ hk => hk.2) (.int .i64 ((rd_T28 t132 x9_1).f2)))⟩
                      have n2_ : Aside0 (Below w.heap.size w wq1) := ⟨by rw [hwq]; exact (below_set (below_set (below_set HB.out GE136.out) GE136.out) GE136.out)⟩
                      have n3_ : Aside0 (wq1.heap[gb136]? = some (.cells #[.string ((rd_T28 t132 x9_1).f0), .string ((rd_T28 t132 x9_1).f1), .int .i64 ((rd_T28 t132 x9_1).f2)] 28 (0, 0))) := ⟨by rw [hwq]; refine blk_put (cs := #[.string ((rd_T28 t132 x9_1).f0), .string ((rd_T28 t132 x9_1).f1), .int .i64 0]) ?_ 2 _ rfl; refine blk_put (cs := #[.string ((rd_T28 t132 x9_1).f0), .string (⟨#[]⟩ : ByteArray), .int .i64 0]) ?_ 1 _ rfl; refine blk_put (cs := #[.string (⟨#[]⟩ : ByteArray), .string (⟨#[]⟩ : ByteArray), .int .i64 0]) ?_ 0 _ rfl; exact BK136.out⟩
                      rw [← hwq]
                      clear HO_7 HO_8 HB BK136 hwq
                      have HO_7 := n0_
                      have HO_8 := n1_
                      have HB := n2_
                      have BK136 := n3_
                      clear n0_ n1_ n2_ n3_
                      have hczwq1_0 : wq1.cell? ⟨gb136, 0, none⟩ = some (.string ((rd_T28 t132 x9_1).f0)) := (blk_cell BK136.out 0).trans rfl
                      have hczwq1_1 : wq1.cell? ⟨gb136, 1, none⟩ = some (.string ((rd_T28 t132 x9_1).f1)) := (blk_cell BK136.out 1).trans rfl
                      have hczwq1_2 : wq1.cell? ⟨gb136, 2, none⟩ = some (.int .i64 ((rd_T28 t132 x9_1).f2)) := (blk_cell BK136.out 2).trans rfl
                      have hfzwq1_0 := blk_frozen BK136.out 0
                      have hfzwq1_1 := blk_frozen BK136.out 1
                      have hfzwq1_2 := blk_frozen BK136.out 2
                      go_upto_region 13 with fail
                      try clear hczwq1_0
                      try clear hczwq1_1
                      try clear hczwq1_2
                      try clear hfzwq1_0
                      try clear hfzwq1_1
                      try clear hfzwq1_2
                      obtain ⟨wq2, hwq⟩ : ∃ wq_ : World, wq_ = (World.setCell (World.setCell wq1 { block := gb136, off := 0 } (.string ((rd_T28 t132 x9_1).f1))) { block := gb136, off := 1 } (.string ((rd_T28 t132 x9_1).f0))) := ⟨_, rfl⟩
                      have n0_ : Aside0 (Kd.R k28 28 wq2 w.heap.size (fun k_ => some k_ ≠ (u8 : Value).ownBlock ∧ k_ ≠ gb136) (.slice (some ad135) t132.length co11) t132) := ⟨by rw [hwq]; exact (Kd.R_far (p := ⟨gb136, 1, none⟩) (Kd.R_far (p := ⟨gb136, 0, none⟩) HO_7.out (fun _ hk => hk.2) (.string ((rd_T28 t132 x9_1).f1))) (fun _ hk => hk.2) (.string ((rd_T28 t132 x9_1).f0)))⟩
                      have n1_ : Aside0 (Kd.R k28 28 wq2 w.heap.size (fun k_ => some k_ ≠ ((.slice (some ad135) t132.length co11) : Value).ownBlock ∧ k_ ≠ gb136) u8 x8_1) := ⟨by rw [hwq]; exact (Kd.R_far (p := ⟨gb136, 1, none⟩) (Kd.R_far (p := ⟨gb136, 0, none⟩) HO_8.out (fun _ hk => hk.2) (.string ((rd_T28 t132 x9_1).f1))) (fun _ hk => hk.2) (.string ((rd_T28 t132 x9_1).f0)))⟩
                      have n2_ : Aside0 (Below w.heap.size w wq2) := ⟨by rw [hwq]; exact (below_set (below_set HB.out GE136.out) GE136.out)⟩
                      have n3_ : Aside0 (wq2.heap[gb136]? = some (.cells #[.string ((rd_T28 t132 x9_1).f1), .string ((rd_T28 t132 x9_1).f0), .int .i64 ((rd_T28 t132 x9_1).f2)] 28 (0, 0))) := ⟨by rw [hwq]; refine blk_put (cs := #[.string ((rd_T28 t132 x9_1).f1), .string ((rd_T28 t132 x9_1).f1), .int .i64 ((rd_T28 t132 x9_1).f2)]) ?_ 1 _ rfl; refine blk_put (cs := #[.string ((rd_T28 t132 x9_1).f0), .string ((rd_T28 t132 x9_1).f1), .int .i64 ((rd_T28 t132 x9_1).f2)]) ?_ 0 _ rfl; exact BK136.out⟩
                      rw [← hwq]
                      clear HO_7 HO_8 HB BK136 hwq
                      have HO_7 := n0_
                      have HO_8 := n1_
                      have HB := n2_
                      have BK136 := n3_
                      clear n0_ n1_ n2_ n3_
                      have hczwq2_0 : wq2.cell? ⟨gb136, 0, none⟩ = some (.string ((rd_T28 t132 x9_1).f1)) := (blk_cell BK136.out 0).trans rfl
                      have hczwq2_1 : wq2.cell? ⟨gb136, 1, none⟩ = some (.string ((rd_T28 t132 x9_1).f0)) := (blk_cell BK136.out 1).trans rfl
                      have hczwq2_2 : wq2.cell? ⟨gb136, 2, none⟩ = some (.int .i64 ((rd_T28 t132 x9_1).f2)) := (blk_cell BK136.out 2).trans rfl
                      have hfzwq2_0 := blk_frozen BK136.out 0
                      have hfzwq2_1 := blk_frozen BK136.out 1
                      have hfzwq2_2 := blk_frozen BK136.out 2
                      go_wp2_with (first | ((with_reducible refine gate_builtin (b := .append) (xs := #[.tmp 44, .tmp 46]) rfl ?_); at_builtin; refine Kd.R_append k28 (w0 := w) w.heap.size rfl (.tmp 44) (.tmp 46) 24 28 (.agg #[(.string ⟨#[]⟩), (.string ⟨#[]⟩), (.int .i64 0)]) 40 rfl Try.underlying24 info28 rfl (by decide) (by omega) u8 x8_1 (⟨((rd_T28 t132 x9_1).f1), ((rd_T28 t132 x9_1).f0), ((rd_T28 t132 x9_1).f2)⟩ : S28) [.string ((rd_T28 t132 x9_1).f1), .string ((rd_T28 t132 x9_1).f0), .int .i64 ((rd_T28 t132 x9_1).f2)] (fun k_ => some k_ ≠ (.slice (some ad135) t132.length co11 : Value).ownBlock ∧ k_ ≠ gb136) (fun _ => False) rfl (by first | (go_simp; done) | (go_simp; rfl)) ?aP (fun _ hk => hk.elim) ?aF ?aO ?aB ?aS ?aL ?_; (case aP => exact k28_mkM _ _ _ (⟨((rd_T28 t132 x9_1).f1), ((rd_T28 t132 x9_1).f0), ((rd_T28 t132 x9_1).f2)⟩ : S28)); (case aB => exact HB.out); (case aF => exact (fun k_ hk => ⟨Kd.fresh' (Kd.R_lt HO_7.out) k_ hk, Kd.freshB (g := gb136) (o := .cells #[.string ((rd_T28 t132 x9_1).f1), .string ((rd_T28 t132 x9_1).f0), .int .i64 ((rd_T28 t132 x9_1).f2)] 28 (0, 0)) BK136.out k_ hk⟩)); (case aO => exact HO_8.out); (case aS => exact below_size HB.out); (case aL => have := LMc16.out; omega); intro v138 w26 ho hb hg hat; rw [← Ny137.out] at ho; have n0_ := Aside0.mk (Kd.R_after (ok := (fun k_ => k_ ≠ gb136)) (Kd.R_mono HO_7.out (fun _ hk => ⟨hk.2, hk.1⟩)) hg hat); have n1_ := Aside0.mk (blk_grown (g := gb136) (o := .cells #[.string ((rd_T28 t132 x9_1).f1), .string ((rd_T28 t132 x9_1).f0), .int .i64 ((rd_T28 t132 x9_1).f2)] 28 (0, 0)) BK136.out hg (Kd.R_away HO_8.out (fun _ hk => hk.2))); have n2_ := Aside0.mk (hb); have n3_ := Aside0.mk (ho); clear HO_7; clear BK136; clear HB; clear HO_8; have HO_7 := n0_; have BK136 := n1_; have HB := n2_; have HO139 := n3_; clear n0_ n1_ n2_ n3_; clear ho hb hg hat; have hczz_0 : w26.cell? ⟨gb136, 0, none⟩ = some (.string ((rd_T28 t132 x9_1).f1)) := (blk_cell BK136.out 0).trans rfl; have hczz_1 : w26.cell? ⟨gb136, 1, none⟩ = some (.string ((rd_T28 t132 x9_1).f0)) := (blk_cell BK136.out 1).trans rfl; have hczz_2 : w26.cell? ⟨gb136, 2, none⟩ = some (.int .i64 ((rd_T28 t132 x9_1).f2)) := (blk_cell BK136.out 2).trans rfl; have hfzz_0 := blk_frozen BK136.out 0; have hfzz_1 := blk_frozen BK136.out 1; have hfzz_2 := blk_frozen BK136.out 2))
                      go_roundg k1
                      case measure => have := HK1.out; omega
                      case rel => exact ⟨(y137), (wrap64 (x9_1 - 1)), (by first | rfl | (simp; done) | (simp [*]; done)), H', ⟨by have := HK1.out; omega⟩, ⟨by (with_reducible repeat (first | apply Kd.R_alloc | apply Kd.R_drewN | apply Kd.R_drew)); exact Kd.R_mono HO_7.out (fun _ hk => hk.2)⟩, ⟨by (with_reducible repeat (first | apply Kd.R_alloc | apply Kd.R_drewN | apply Kd.R_drew)); exact Kd.R_mono HO139.out (fun _ hk => hk.1)⟩, ⟨by repeat (first | (with_reducible first | exact HB.out | apply below_alloc | apply pw_below_drewN | apply below_drew1 | refine below_set ?_ GE136.out) | exact HB.out)⟩⟩
                  · rw [if_neg c16] at H
                    exact absurd H (by simp)
                · rw [if_neg c15] at H
                  have c15b0 : ((Int.tmod (wrap64 (x9_1 + (wrap64 (a1)))) 3) == 0) = false := beq_eq_false_iff_ne.mpr c15
                  have c15b1 : ((Int.tmod (wrap64 (x9_1 + (wrap64 (a1)))) 3) != 0) = true := bne_iff_ne.mpr c15
                  by_cases c27 : x8_1.length < 3518437208883
                  · rw [if_pos c27] at H
                    have LMc27 := Aside0.mk c27
                    clear c27
                    obtain ⟨y143, hy143⟩ : ∃ y_ : List (S28), y_ = (x8_1 ++ [(⟨(rd_T28 t132 x9_1).f0, (rd_T28 t132 x9_1).f1, (rd_T28 t132 x9_1).f2⟩ : S28)]) := ⟨_, rfl⟩
                    replace H : (if (Int.tmod (wrap64 (x9_1 + (wrap64 (a2)))) 4) = 0 then (if y143.length < 3518437208883 then (flagstonelaw26_IdentityOrder.l0 k1 a1 a2 t132 (y143 ++ [(⟨(rd_T28 t132 x9_1).f0, (rd_T28 t132 x9_1).f1, (rd_T28 t132 x9_1).f2⟩ : S28)]) (wrap64 (x9_1 - 1))) else (none)) else (flagstonelaw26_IdentityOrder.l0 k1 a1 a2 t132 y143 (wrap64 (x9_1 - 1)))) = some r := by first | (rw [hy143]; with_reducible exact H) | (have H2_ := (Option.bind_some _ _).symm.trans H; rw [hy143]; with_reducible exact H2_) | (have H2_ := (Option.bind_some _ _).symm.trans H; with_reducible exact H2_) | with_reducible exact H | (rw [hy143]; exact H) | exact H
                    have Ny143 := Aside0.mk hy143
                    clear hy143
                    by_cases c28 : (Int.tmod (wrap64 (x9_1 + (wrap64 (a2)))) 4) = 0
                    · rw [if_pos c28] at H
                      have c28b0 : ((Int.tmod (wrap64 (x9_1 + (wrap64 (a2)))) 4) == 0) = true := beq_iff_eq.mpr c28
                      have c28b1 : ((Int.tmod (wrap64 (x9_1 + (wrap64 (a2)))) 4) != 0) = false := bne_eq_false_iff_eq.mpr c28
                      clear c28
                      by_cases c29 : y143.length < 3518437208883
                      · rw [if_pos c29] at H
                        have LMc29 := Aside0.mk c29
                        clear c29
                        obtain ⟨y146, hy146⟩ : ∃ y_ : List (S28), y_ = (y143 ++ [(⟨(rd_T28 t132 x9_1).f0, (rd_T28 t132 x9_1).f1, (rd_T28 t132 x9_1).f2⟩ : S28)]) := ⟨_, rfl⟩
                        replace H : (flagstonelaw26_IdentityOrder.l0 k1 a1 a2 t132 y146 (wrap64 (x9_1 - 1))) = some r := by first | (rw [hy146]; with_reducible exact H) | (have H2_ := (Option.bind_some _ _).symm.trans H; rw [hy146]; with_reducible exact H2_) | (have H2_ := (Option.bind_some _ _).symm.trans H; with_reducible exact H2_) | with_reducible exact H | (rw [hy146]; exact H) | exact H
                        have Ny146 := Aside0.mk hy146
                        clear hy146
                        have H' := Aside0.mk H
                        clear H
                        have p135 : 0 ≤ (x9_1 : Int) := of_decide_eq_true (by first | (with_reducible assumption) | assumption)
                        have q135 : x9_1 < (t132.length : Int) := of_decide_eq_true (by first | (with_reducible assumption) | assumption)
                        obtain ⟨ad135, e135, hx135_0, hx135_1, hx135_2⟩ := at_T28 (Kd.R_reads' HO_7.out).2.2 x9_1 p135 q135
                        cases e135
                        replace p135 := eq_true p135
                        replace q135 := eq_true q135
                        go_upto_region 11 with ((with_reducible refine gate_dst (N := 10) rfl ?_); refine box_event ?hg (N := 10) ?hd (cs := #[.string (⟨#[]⟩ : ByteArray), .string (⟨#[]⟩ : ByteArray), .int .i64 0]) (t := 28) ?hr ?_; (case hd => rfl); (case hg => rfl); (case hr => first | (go_simp; done) | (go_simp; rfl)); intro gb136 hg w30 hbox hb; have n0_ := Aside0.mk (Kd.R_below (Kd.R_elderB (by (with_reducible repeat (first | apply Kd.R_alloc | apply Kd.R_drewN | apply Kd.R_drew)); exact HO_7.out) gb136 (Nat.le_of_eq hg.symm)) hb); have n1_ := Aside0.mk (Kd.R_below (Kd.R_elderB (by (with_reducible repeat (first | apply Kd.R_alloc | apply Kd.R_drewN | apply Kd.R_drew)); exact HO_8.out) gb136 (Nat.le_of_eq hg.symm)) hb); have n2_ := Aside0.mk (below_step (by repeat (first | (with_reducible first | exact HB.out | apply below_alloc | apply pw_below_drewN | apply below_drew1) | exact HB.out)) hb); have n3_ := Aside0.mk (hbox); have n4_ := Aside0.mk ((by rw [hg]; exact (below_size (by repeat (first | (with_reducible first | exact HB.out | apply below_alloc | apply pw_below_drewN | apply below_drew1) | exact HB.out))) : w.heap.size ≤ gb136)); have n5_ := Aside0.mk ((by rw [hg]; exact (below_size (by repeat (first | (with_reducible first | exact HB.out | apply below_alloc | apply pw_below_drewN | apply below_drew1) | exact HB.out))) : w.heap.size ≤ gb136)); clear HO_7; clear HO_8; clear HB; have HO_7 := n0_; have HO_8 := n1_; have HB := n2_; have BK136 := n3_; have GW136 := n4_; have GE136 := n5_; clear n0_ n1_ n2_ n3_ n4_ n5_; clear hb hbox hg; have hcz31_0 : w30.cell? ⟨gb136, 0, none⟩ = some (.string (⟨#[]⟩ : ByteArray)) := (blk_cell BK136.out 0).trans rfl; have hcz31_1 : w30.cell? ⟨gb136, 1, none⟩ = some (.string (⟨#[]⟩ : ByteArray)) := (blk_cell BK136.out 1).trans rfl; have hcz31_2 : w30.cell? ⟨gb136, 2, none⟩ = some (.int .i64 0) := (blk_cell BK136.out 2).trans rfl; have hfz31_0 := blk_frozen BK136.out 0; have hfz31_1 := blk_frozen BK136.out 1; have hfz31_2 := blk_frozen BK136.out 2)
                        try clear hcz31_0
                        try clear hcz31_1
                        try clear hcz31_2
                        try clear hfz31_0
                        try clear hfz31_1
                        try clear hfz31_2
                        obtain ⟨wq1, hwq⟩ : ∃ wq_ : World, wq_ = (World.setCell (World.setCell (World.setCell w30 { block := gb136, off := 0 } (.string ((rd_T28 t132 x9_1).f0))) { block := gb136, off := 1 } (.string ((rd_T28 t132 x9_1).f1))) { block := gb136, off := 2 } (.int .i64 ((rd_T28 t132 x9_1).f2))) := ⟨_, rfl⟩
                        have n0_ : Aside0 (Kd.R k28 28 wq1 w.heap.size (fun k_ => some k_ ≠ (u8 : Value).ownBlock ∧ k_ ≠ gb136) (.slice (some ad135) t132.length co11) t132) := ⟨by rw [hwq]; exact (Kd.R_far (p := ⟨gb136, 2, none⟩) (Kd.R_far (p := ⟨gb136, 1, none⟩) (Kd.R_far (p := ⟨gb136, 0, none⟩) HO_7.out (fun _ hk => hk.2) (.string ((rd_T28 t132 x9_1).f0))) (fun _ hk => hk.2) (.string ((rd_T28 t132 x9_1).f1))) (fun _ hk => hk.2) (.int .i64 ((rd_T28 t132 x9_1).f2)))⟩
                        have n1_ : Aside0 (Kd.R k28 28 wq1 w.heap.size (fun k_ => some k_ ≠ ((.slice (some ad135) t132.length co11) : Value).ownBlock ∧ k_ ≠ gb136) u8 x8_1) := ⟨by rw [hwq]; exact (Kd.R_far (p := ⟨gb136, 2, none⟩) (Kd.R_far (p := ⟨gb136, 1, none⟩) (Kd.R_far (p := ⟨gb136, 0, none⟩) HO_8.out (fun _ hk => hk.2) (.string ((rd_T28 t132 x9_1).f0))) (fun _ hk => hk.2) (.string ((rd_T28 t132 x9_1).f1))) (fun _ hk => hk.2) (.int .i64 ((rd_T28 t132 x9_1).f2)))⟩
                        have n2_ : Aside0 (Below w.heap.size w wq1) := ⟨by rw [hwq]; exact (below_set (below_set (below_set HB.out GE136.out) GE136.out) GE136.out)⟩
                        have n3_ : Aside0 (wq1.heap[gb136]? = some (.cells #[.string ((rd_T28 t132 x9_1).f0), .string ((rd_T28 t132 x9_1).f1), .int .i64 ((rd_T28 t132 x9_1).f2)] 28 (0, 0))) := ⟨by rw [hwq]; refine blk_put (cs := #[.string ((rd_T28 t132 x9_1).f0), .string ((rd_T28 t132 x9_1).f1), .int .i64 0]) ?_ 2 _ rfl; refine blk_put (cs := #[.string ((rd_T28 t132 x9_1).f0), .string (⟨#[]⟩ : ByteArray), .int .i64 0]) ?_ 1 _ rfl; refine blk_put (cs := #[.string (⟨#[]⟩ : ByteArray), .string (⟨#[]⟩ : ByteArray), .int .i64 0]) ?_ 0 _ rfl; exact BK136.out⟩
                        rw [← hwq]
                        clear HO_7 HO_8 HB BK136 hwq
                        have HO_7 := n0_
                        have HO_8 := n1_
                        have HB := n2_
                        have BK136 := n3_
                        clear n0_ n1_ n2_ n3_
                        have hczwq1_0 : wq1.cell? ⟨gb136, 0, none⟩ = some (.string ((rd_T28 t132 x9_1).f0)) := (blk_cell BK136.out 0).trans rfl
                        have hczwq1_1 : wq1.cell? ⟨gb136, 1, none⟩ = some (.string ((rd_T28 t132 x9_1).f1)) := (blk_cell BK136.out 1).trans rfl
                        have hczwq1_2 : wq1.cell? ⟨gb136, 2, none⟩ = some (.int .i64 ((rd_T28 t132 x9_1).f2)) := (blk_cell BK136.out 2).trans rfl
                        have hfzwq1_0 := blk_frozen BK136.out 0
                        have hfzwq1_1 := blk_frozen BK136.out 1
                        have hfzwq1_2 := blk_frozen BK136.out 2
                        go_wp2_with (first | ((with_reducible refine gate_builtin (b := .append) (xs := #[.tmp 44, .tmp 46]) rfl ?_); at_builtin; refine Kd.R_append k28 (w0 := w) w.heap.size rfl (.tmp 44) (.tmp 46) 24 28 (.agg #[(.string ⟨#[]⟩), (.string ⟨#[]⟩), (.int .i64 0)]) 40 rfl Try.underlying24 info28 rfl (by decide) (by omega) u8 x8_1 (⟨((rd_T28 t132 x9_1).f0), ((rd_T28 t132 x9_1).f1), ((rd_T28 t132 x9_1).f2)⟩ : S28) [.string ((rd_T28 t132 x9_1).f0), .string ((rd_T28 t132 x9_1).f1), .int .i64 ((rd_T28 t132 x9_1).f2)] (fun k_ => some k_ ≠ (.slice (some ad135) t132.length co11 : Value).ownBlock ∧ k_ ≠ gb136) (fun _ => False) rfl (by first | (go_simp; done) | (go_simp; rfl)) ?aP (fun _ hk => hk.elim) ?aF ?aO ?aB ?aS ?aL ?_; (case aP => exact k28_mkM _ _ _ (⟨((rd_T28 t132 x9_1).f0), ((rd_T28 t132 x9_1).f1), ((rd_T28 t132 x9_1).f2)⟩ : S28)); (case aB => exact HB.out); (case aF => exact (fun k_ hk => ⟨Kd.fresh' (Kd.R_lt HO_7.out) k_ hk, Kd.freshB (g := gb136) (o := .cells #[.string ((rd_T28 t132 x9_1).f0), .string ((rd_T28 t132 x9_1).f1), .int .i64 ((rd_T28 t132 x9_1).f2)] 28 (0, 0)) BK136.out k_ hk⟩)); (case aO => exact HO_8.out); (case aS => exact below_size HB.out); (case aL => have := LMc27.out; omega); intro v144 w32 ho hb hg hat; rw [← Ny143.out] at ho; have n0_ := Aside0.mk (Kd.R_after (ok := (fun k_ => k_ ≠ gb136)) (Kd.R_mono HO_7.out (fun _ hk => ⟨hk.2, hk.1⟩)) hg hat); have n1_ := Aside0.mk (blk_grown (g := gb136) (o := .cells #[.string ((rd_T28 t132 x9_1).f0), .string ((rd_T28 t132 x9_1).f1), .int .i64 ((rd_T28 t132 x9_1).f2)] 28 (0, 0)) BK136.out hg (Kd.R_away HO_8.out (fun _ hk => hk.2))); have n2_ := Aside0.mk (hb); have n3_ := Aside0.mk (ho); clear HO_7; clear BK136; clear HB; clear HO_8; have HO_7 := n0_; have BK136 := n1_; have HB := n2_; have HO145 := n3_; clear n0_ n1_ n2_ n3_; clear ho hb hg hat; have hczz_0 : w32.cell? ⟨gb136, 0, none⟩ = some (.string ((rd_T28 t132 x9_1).f0)) := (blk_cell BK136.out 0).trans rfl; have hczz_1 : w32.cell? ⟨gb136, 1, none⟩ = some (.string ((rd_T28 t132 x9_1).f1)) := (blk_cell BK136.out 1).trans rfl; have hczz_2 : w32.cell? ⟨gb136, 2, none⟩ = some (.int .i64 ((rd_T28 t132 x9_1).f2)) := (blk_cell BK136.out 2).trans rfl; have hfzz_0 := blk_frozen BK136.out 0; have hfzz_1 := blk_frozen BK136.out 1; have hfzz_2 := blk_frozen BK136.out 2) | ((with_reducible refine gate_builtin (b := .append) (xs := #[.tmp 54, .tmp 56]) rfl ?_); at_builtin; refine Kd.R_append k28 (w0 := w) w.heap.size rfl (.tmp 54) (.tmp 56) 24 28 (.agg #[(.string ⟨#[]⟩), (.string ⟨#[]⟩), (.int .i64 0)]) 40 rfl Try.underlying24 info28 rfl (by decide) (by omega) v144 y143 (⟨(rd_T28 t132 x9_1).f0, (rd_T28 t132 x9_1).f1, (rd_T28 t132 x9_1).f2⟩ : S28) [.string ((rd_T28 t132 x9_1).f0), .string ((rd_T28 t132 x9_1).f1), .int .i64 ((rd_T28 t132 x9_1).f2)] (fun k_ => some k_ ≠ (.slice (some ad135) t132.length co11 : Value).ownBlock ∧ k_ ≠ gb136) (fun _ => False) rfl rfl ?aP (fun _ hk => hk.elim) ?aF ?aO ?aB ?aS ?aL ?_; (case aP => exact k28_mkM _ _ _ (⟨(rd_T28 t132 x9_1).f0, (rd_T28 t132 x9_1).f1, (rd_T28 t132 x9_1).f2⟩ : S28)); (case aB => exact (by repeat (first | (with_reducible first | exact HB.out | apply below_alloc | apply pw_below_drewN | apply below_drew1 | refine below_set ?_ GE136.out) | exact HB.out))); (case aF => exact (fun k_ hk => ⟨Kd.fresh' (Kd.R_lt (by (with_reducible repeat (first | apply Kd.R_alloc | apply Kd.R_drewN | apply Kd.R_drew)); exact HO_7.out)) k_ hk, Kd.freshB (g := gb136) (o := .cells #[.string ((rd_T28 t132 x9_1).f0), .string ((rd_T28 t132 x9_1).f1), .int .i64 ((rd_T28 t132 x9_1).f2)] 28 (0, 0)) (by (with_reducible repeat (first | refine blk_drewN ?_ _ | refine blk_drew ?_ | refine blk_alloc ?_ _)); exact BK136.out) k_ hk⟩)); (case aO => exact (by (with_reducible repeat (first | apply Kd.R_alloc | apply Kd.R_drewN | apply Kd.R_drew)); exact HO145.out)); (case aS => exact (below_size (by repeat (first | (with_reducible first | exact HB.out | apply below_alloc | apply pw_below_drewN | apply below_drew1 | refine below_set ?_ GE136.out) | exact HB.out)))); (case aL => have := LMc29.out; omega); intro v147 w34 ho hb hg hat; rw [← Ny146.out] at ho; have n0_ := Aside0.mk (Kd.R_after (ok := (fun k_ => k_ ≠ gb136)) (by (with_reducible repeat (first | apply Kd.R_alloc | apply Kd.R_drewN | apply Kd.R_drew)); exact HO_7.out) hg hat); have n1_ := Aside0.mk (blk_grown (g := gb136) (o := .cells #[.string ((rd_T28 t132 x9_1).f0), .string ((rd_T28 t132 x9_1).f1), .int .i64 ((rd_T28 t132 x9_1).f2)] 28 (0, 0)) (by (with_reducible repeat (first | refine blk_drewN ?_ _ | refine blk_drew ?_ | refine blk_alloc ?_ _)); exact BK136.out) hg (Kd.R_away HO145.out (fun _ hk => hk.2))); have n2_ := Aside0.mk (hb); have n3_ := Aside0.mk (ho); clear HO_7; clear BK136; clear HB; clear HO145; have HO_7 := n0_; have BK136 := n1_; have HB := n2_; have HO148 := n3_; clear n0_ n1_ n2_ n3_; clear ho hb hg hat))
                        go_roundg k1
                        case measure => have := HK1.out; omega
                        case rel => exact ⟨(y146), (wrap64 (x9_1 - 1)), (by first | rfl | (simp; done) | (simp [*]; done)), H', ⟨by have := HK1.out; omega⟩, ⟨by (with_reducible repeat (first | apply Kd.R_alloc | apply Kd.R_drewN | apply Kd.R_drew)); exact Kd.R_mono HO_7.out (fun _ hk => hk.2)⟩, ⟨by (with_reducible repeat (first | apply Kd.R_alloc | apply Kd.R_drewN | apply Kd.R_drew)); exact Kd.R_mono HO148.out (fun _ hk => hk.1)⟩, ⟨by repeat (first | (with_reducible first | exact HB.out | apply below_alloc | apply pw_below_drewN | apply below_drew1 | refine below_set ?_ GE136.out) | exact HB.out)⟩⟩
                      · rw [if_neg c29] at H
                        exact absurd H (by simp)
                    · rw [if_neg c28] at H
                      have c28b0 : ((Int.tmod (wrap64 (x9_1 + (wrap64 (a2)))) 4) == 0) = false := beq_eq_false_iff_ne.mpr c28
                      have c28b1 : ((Int.tmod (wrap64 (x9_1 + (wrap64 (a2)))) 4) != 0) = true := bne_iff_ne.mpr c28
                      have H' := Aside0.mk H
                      clear H
                      have p135 : 0 ≤ (x9_1 : Int) := of_decide_eq_true (by first | (with_reducible assumption) | assumption)
                      have q135 : x9_1 < (t132.length : Int) := of_decide_eq_true (by first | (with_reducible assumption) | assumption)
                      obtain ⟨ad135, e135, hx135_0, hx135_1, hx135_2⟩ := at_T28 (Kd.R_reads' HO_7.out).2.2 x9_1 p135 q135
                      cases e135
                      replace p135 := eq_true p135
                      replace q135 := eq_true q135
                      go_upto_region 11 with ((with_reducible refine gate_dst (N := 10) rfl ?_); refine box_event ?hg (N := 10) ?hd (cs := #[.string (⟨#[]⟩ : ByteArray), .string (⟨#[]⟩ : ByteArray), .int .i64 0]) (t := 28) ?hr ?_; (case hd => rfl); (case hg => rfl); (case hr => first | (go_simp; done) | (go_simp; rfl)); intro gb136 hg w35 hbox hb; have n0_ := Aside0.mk (Kd.R_below (Kd.R_elderB (by (with_reducible repeat (first | apply Kd.R_alloc | apply Kd.R_drewN | apply Kd.R_drew)); exact HO_7.out) gb136 (Nat.le_of_eq hg.symm)) hb); have n1_ := Aside0.mk (Kd.R_below (Kd.R_elderB (by (with_reducible repeat (first | apply Kd.R_alloc | apply Kd.R_drewN | apply Kd.R_drew)); exact HO_8.out) gb136 (Nat.le_of_eq hg.symm)) hb); have n2_ := Aside0.mk (below_step (by repeat (first | (with_reducible first | exact HB.out | apply below_alloc | apply pw_below_drewN | apply below_drew1) | exact HB.out)) hb); have n3_ := Aside0.mk (hbox); have n4_ := Aside0.mk ((by rw [hg]; exact (below_size (by repeat (first | (with_reducible first | exact HB.out | apply below_alloc | apply pw_below_drewN | apply below_drew1) | exact HB.out))) : w.heap.size ≤ gb136)); have n5_ := Aside0.mk ((by rw [hg]; exact (below_size (by repeat (first | (with_reducible first | exact HB.out | apply below_alloc | apply pw_below_drewN | apply below_drew1) | exact HB.out))) : w.heap.size ≤ gb136)); clear HO_7; clear HO_8; clear HB; have HO_7 := n0_; have HO_8 := n1_; have HB := n2_; have BK136 := n3_; have GW136 := n4_; have GE136 := n5_; clear n0_ n1_ n2_ n3_ n4_ n5_; clear hb hbox hg; have hcz36_0 : w35.cell? ⟨gb136, 0, none⟩ = some (.string (⟨#[]⟩ : ByteArray)) := (blk_cell BK136.out 0).trans rfl; have hcz36_1 : w35.cell? ⟨gb136, 1, none⟩ = some (.string (⟨#[]⟩ : ByteArray)) := (blk_cell BK136.out 1).trans rfl; have hcz36_2 : w35.cell? ⟨gb136, 2, none⟩ = some (.int .i64 0) := (blk_cell BK136.out 2).trans rfl; have hfz36_0 := blk_frozen BK136.out 0; have hfz36_1 := blk_frozen BK136.out 1; have hfz36_2 := blk_frozen BK136.out 2)
                      try clear hcz36_0
                      try clear hcz36_1
                      try clear hcz36_2
                      try clear hfz36_0
                      try clear hfz36_1
                      try clear hfz36_2
                      obtain ⟨wq1, hwq⟩ : ∃ wq_ : World, wq_ = (World.setCell (World.setCell (World.setCell w35 { block := gb136, off := 0 } (.string ((rd_T28 t132 x9_1).f0))) { block := gb136, off := 1 } (.string ((rd_T28 t132 x9_1).f1))) { block := gb136, off := 2 } (.int .i64 ((rd_T28 t132 x9_1).f2))) := ⟨_, rfl⟩
                      have n0_ : Aside0 (Kd.R k28 28 wq1 w.heap.size (fun k_ => some k_ ≠ (u8 : Value).ownBlock ∧ k_ ≠ gb136) (.slice (some ad135) t132.length co11) t132) := ⟨by rw [hwq]; exact (Kd.R_far (p := ⟨gb136, 2, none⟩) (Kd.R_far (p := ⟨gb136, 1, none⟩) (Kd.R_far (p := ⟨gb136, 0, none⟩) HO_7.out (fun _ hk => hk.2) (.string ((rd_T28 t132 x9_1).f0))) (fun _ hk => hk.2) (.string ((rd_T28 t132 x9_1).f1))) (fun _ hk => hk.2) (.int .i64 ((rd_T28 t132 x9_1).f2)))⟩
                      have n1_ : Aside0 (Kd.R k28 28 wq1 w.heap.size (fun k_ => some k_ ≠ ((.slice (some ad135) t132.length co11) : Value).ownBlock ∧ k_ ≠ gb136) u8 x8_1) := ⟨by rw [hwq]; exact (Kd.R_far (p := ⟨gb136, 2, none⟩) (Kd.R_far (p := ⟨gb136, 1, none⟩) (Kd.R_far (p := ⟨gb136, 0, none⟩) HO_8.out (fun _ hk => hk.2) (.string ((rd_T28 t132 x9_1).f0))) (fun _ hk => hk.2) (.string ((rd_T28 t132 x9_1).f1))) (fun _ hk => hk.2) (.int .i64 ((rd_T28 t132 x9_1).f2)))⟩
                      have n2_ : Aside0 (Below w.heap.size w wq1) := ⟨by rw [hwq]; exact (below_set (below_set (below_set HB.out GE136.out) GE136.out) GE136.out)⟩
                      have n3_ : Aside0 (wq1.heap[gb136]? = some (.cells #[.string ((rd_T28 t132 x9_1).f0), .string ((rd_T28 t132 x9_1).f1), .int .i64 ((rd_T28 t132 x9_1).f2)] 28 (0, 0))) := ⟨by rw [hwq]; refine blk_put (cs := #[.string ((rd_T28 t132 x9_1).f0), .string ((rd_T28 t132 x9_1).f1), .int .i64 0]) ?_ 2 _ rfl; refine blk_put (cs := #[.string ((rd_T28 t132 x9_1).f0), .string (⟨#[]⟩ : ByteArray), .int .i64 0]) ?_ 1 _ rfl; refine blk_put (cs := #[.string (⟨#[]⟩ : ByteArray), .string (⟨#[]⟩ : ByteArray), .int .i64 0]) ?_ 0 _ rfl; exact BK136.out⟩
                      rw [← hwq]
                      clear HO_7 HO_8 HB BK136 hwq
                      have HO_7 := n0_
                      have HO_8 := n1_
                      have HB := n2_
                      have BK136 := n3_
                      clear n0_ n1_ n2_ n3_
                      have hczwq1_0 : wq1.cell? ⟨gb136, 0, none⟩ = some (.string ((rd_T28 t132 x9_1).f0)) := (blk_cell BK136.out 0).trans rfl
                      have hczwq1_1 : wq1.cell? ⟨gb136, 1, none⟩ = some (.string ((rd_T28 t132 x9_1).f1)) := (blk_cell BK136.out 1).trans rfl
                      have hczwq1_2 : wq1.cell? ⟨gb136, 2, none⟩ = some (.int .i64 ((rd_T28 t132 x9_1).f2)) := (blk_cell BK136.out 2).trans rfl
                      have hfzwq1_0 := blk_frozen BK136.out 0
                      have hfzwq1_1 := blk_frozen BK136.out 1
                      have hfzwq1_2 := blk_frozen BK136.out 2
                      go_wp2_with (first | ((with_reducible refine gate_builtin (b := .append) (xs := #[.tmp 44, .tmp 46]) rfl ?_); at_builtin; refine Kd.R_append k28 (w0 := w) w.heap.size rfl (.tmp 44) (.tmp 46) 24 28 (.agg #[(.string ⟨#[]⟩), (.string ⟨#[]⟩), (.int .i64 0)]) 40 rfl Try.underlying24 info28 rfl (by decide) (by omega) u8 x8_1 (⟨((rd_T28 t132 x9_1).f0), ((rd_T28 t132 x9_1).f1), ((rd_T28 t132 x9_1).f2)⟩ : S28) [.string ((rd_T28 t132 x9_1).f0), .string ((rd_T28 t132 x9_1).f1), .int .i64 ((rd_T28 t132 x9_1).f2)] (fun k_ => some k_ ≠ (.slice (some ad135) t132.length co11 : Value).ownBlock ∧ k_ ≠ gb136) (fun _ => False) rfl (by first | (go_simp; done) | (go_simp; rfl)) ?aP (fun _ hk => hk.elim) ?aF ?aO ?aB ?aS ?aL ?_; (case aP => exact k28_mkM _ _ _ (⟨((rd_T28 t132 x9_1).f0), ((rd_T28 t132 x9_1).f1), ((rd_T28 t132 x9_1).f2)⟩ : S28)); (case aB => exact HB.out); (case aF => exact (fun k_ hk => ⟨Kd.fresh' (Kd.R_lt HO_7.out) k_ hk, Kd.freshB (g := gb136) (o := .cells #[.string ((rd_T28 t132 x9_1).f0), .string ((rd_T28 t132 x9_1).f1), .int .i64 ((rd_T28 t132 x9_1).f2)] 28 (0, 0)) BK136.out k_ hk⟩)); (case aO => exact HO_8.out); (case aS => exact below_size HB.out); (case aL => have := LMc27.out; omega); intro v144 w37 ho hb hg hat; rw [← Ny143.out] at ho; have n0_ := Aside0.mk (Kd.R_after (ok := (fun k_ => k_ ≠ gb136)) (Kd.R_mono HO_7.out (fun _ hk => ⟨hk.2, hk.1⟩)) hg hat); have n1_ := Aside0.mk (blk_grown (g := gb136) (o := .cells #[.string ((rd_T28 t132 x9_1).f0), .string ((rd_T28 t132 x9_1).f1), .int .i64 ((rd_T28 t132 x9_1).f2)] 28 (0, 0)) BK136.out hg (Kd.R_away HO_8.out (fun _ hk => hk.2))); have n2_ := Aside0.mk (hb); have n3_ := Aside0.mk (ho); clear HO_7; clear BK136; clear HB; clear HO_8; have HO_7 := n0_; have BK136 := n1_; have HB := n2_; have HO145 := n3_; clear n0_ n1_ n2_ n3_; clear ho hb hg hat; have hczz_0 : w37.cell? ⟨gb136, 0, none⟩ = some (.string ((rd_T28 t132 x9_1).f0)) := (blk_cell BK136.out 0).trans rfl; have hczz_1 : w37.cell? ⟨gb136, 1, none⟩ = some (.string ((rd_T28 t132 x9_1).f1)) := (blk_cell BK136.out 1).trans rfl; have hczz_2 : w37.cell? ⟨gb136, 2, none⟩ = some (.int .i64 ((rd_T28 t132 x9_1).f2)) := (blk_cell BK136.out 2).trans rfl; have hfzz_0 := blk_frozen BK136.out 0; have hfzz_1 := blk_frozen BK136.out 1; have hfzz_2 := blk_frozen BK136.out 2))
                      go_roundg k1
                      case measure => have := HK1.out; omega
                      case rel => exact ⟨(y143), (wrap64 (x9_1 - 1)), (by first | rfl | (simp; done) | (simp [*]; done)), H', ⟨by have := HK1.out; omega⟩, ⟨by (with_reducible repeat (first | apply Kd.R_alloc | apply Kd.R_drewN | apply Kd.R_drew)); exact Kd.R_mono HO_7.out (fun _ hk => hk.2)⟩, ⟨by (with_reducible repeat (first | apply Kd.R_alloc | apply Kd.R_drewN | apply Kd.R_drew)); exact Kd.R_mono HO145.out (fun _ hk => hk.1)⟩, ⟨by repeat (first | (with_reducible first | exact HB.out | apply below_alloc | apply pw_below_drewN | apply below_drew1 | refine below_set ?_ GE136.out) | exact HB.out)⟩⟩
                  · rw [if_neg c27] at H
                    exact absurd H (by simp)
              · rw [if_neg c14] at H
                exact absurd H (by simp)
            · rw [if_neg c13] at H
              exact absurd H (by simp)
          · rw [if_neg c12] at H
            have c12b0 : decide (0 ≤ x9_1) = false := decide_eq_false c12
            clear c12
            replace H := Option.bind_eq_some_iff.mp H
            obtain ⟨t149, A380, H⟩ := H
            replace H : (flagstonelaw26_IdentityOrder.l1 k1 t132 x8_1 t149 0) = some r := H
            have A38 := Aside0.mk A380
            clear A380
            have H' := Aside0.mk H
            clear H
            go_wp2_with (first | ((with_reducible refine gate_callee (f := 14) rfl ?_); refine goesL_ (some 58) rfl rfl Try.func14 (by kernel_rfl) rfl #[] rfl (by (try simp only [List.map_toArray, List.map_cons, List.map_nil]); first | done | rfl | (simp only [List.length_drop, List.length_take]; rfl)) ?_; (with_reducible refine (flagstonedata_Ids.calls  t149 _ A38.out).mono ?_); rintro e w39 ⟨v150, rfl, ho0, hb⟩; refine ⟨_, rfl, ?_⟩; have n0_ := Aside0.mk (Kd.R_below (by (with_reducible repeat (first | apply Kd.R_alloc | apply Kd.R_drewN | apply Kd.R_drew)); exact HO_7.out) hb); have n1_ := Aside0.mk (Kd.R_below (by (with_reducible repeat (first | apply Kd.R_alloc | apply Kd.R_drewN | apply Kd.R_drew)); exact HO_8.out) hb); have n2_ := Aside0.mk (Kd.R_lower ho0 (below_size (by repeat (first | (with_reducible first | exact HB.out | apply below_alloc | apply pw_below_drewN | apply below_drew1) | exact HB.out)))); have n3_ := Aside0.mk (below_step (by repeat (first | (with_reducible first | exact HB.out | apply below_alloc | apply pw_below_drewN | apply below_drew1) | exact HB.out)) hb); clear HO_7; clear HO_8; clear HB; have HO_7 := n0_; have HO_8 := n1_; have HO151 := n2_; have HB := n3_; clear n0_ n1_ n2_ n3_; (try clear hb); (try clear hb2); (try clear hk); (try clear hi); (try clear ho0)))
            go_loopg [12] k1 (fun kq v12 w' => ∃ (x12_2 : Int), v12 = .int .i64 x12_2 ∧ Aside0 (flagstonelaw26_IdentityOrder.l1 kq t132 x8_1 t149 x12_2 = some r) ∧ Aside0 (kq ≤ k1) ∧ Aside0 (Kd.R k28 28 w' w.heap.size (fun k_ => some k_ ≠ (u8 : Value).ownBlock) (.slice Ao11 t132.length co11) t132) ∧ Aside0 (Kd.R k28 28 w' w.heap.size (fun k_ => some k_ ≠ ((.slice Ao11 t132.length co11) : Value).ownBlock) u8 x8_1) ∧ Aside0 (Kd.R Kd.string 9 w' w.heap.size (fun _ => True) v150 t149) ∧ Aside0 (Below w.heap.size w w'))
            case atStart => exact ⟨(0), (by first | rfl | (simp; done) | (simp [*]; done)), H', ⟨Nat.le_refl _⟩, ⟨by (with_reducible repeat (first | apply Kd.R_alloc | apply Kd.R_drewN | apply Kd.R_drew)); exact HO_7.out⟩, ⟨by (with_reducible repeat (first | apply Kd.R_alloc | apply Kd.R_drewN | apply Kd.R_drew)); exact HO_8.out⟩, ⟨by (with_reducible repeat (first | apply Kd.R_alloc | apply Kd.R_drewN | apply Kd.R_drew)); exact HO151.out⟩, ⟨by repeat (first | (with_reducible first | exact HB.out | apply below_alloc | apply pw_below_drewN | apply below_drew1) | exact HB.out)⟩⟩
            case round =>
              clear H'
              try clear c1
              try clear p1
              try clear q1
              try clear hx1
              try clear c2
              try clear p2
              try clear c5
              try clear c6
              try clear c6b0
              try clear c6b1
              try clear p6
              try clear c11
              try clear c12
              try clear c12b0
              try clear c13
              try clear c13b0
              try clear p13
              try clear q13
              try clear hx13
              try clear c14
              try clear c14b0
              try clear c15
              try clear c15b0
              try clear c15b1
              try clear c16
              try clear c17
              try clear c17b0
              try clear c17b1
              try clear c18
              try clear c27
              try clear c28
              try clear c28b0
              try clear c28b1
              try clear c29
              try clear hcz20_0
              try clear hcz20_1
              try clear hcz20_2
              try clear hcz22_0
              try clear hcz22_1
              try clear hcz22_2
              try clear hcz25_0
              try clear hcz25_1
              try clear hcz25_2
              try clear hcz31_0
              try clear hcz31_1
              try clear hcz31_2
              try clear hcz33_0
              try clear hcz33_1
              try clear hcz33_2
              try clear hcz36_0
              try clear hcz36_1
              try clear hcz36_2
              try clear hfz20_0
              try clear hfz20_1
              try clear hfz20_2
              try clear hfz22_0
              try clear hfz22_1
              try clear hfz22_2
              try clear hfz25_0
              try clear hfz25_1
              try clear hfz25_2
              try clear hfz31_0
              try clear hfz31_1
              try clear hfz31_2
              try clear hfz33_0
              try clear hfz33_1
              try clear hfz33_2
              try clear hfz36_0
              try clear hfz36_1
              try clear hfz36_2
              try clear hx135_0
              try clear hx135_1
              try clear hx135_2
              try clear p135
              try clear p2
              try clear p6
              try clear q135
              obtain ⟨x12_2, rfl, HA, HK2, HO_7, HO_8, HO_11, HB⟩ := hrel
              cases gk with
              | zero => exact absurd HA.out (by simp [flagstonelaw26_IdentityOrder.l1])
              | succ k2 =>
                have H := HA.out
                clear HA
                simp only [flagstonelaw26_IdentityOrder.l1] at H
                by_cases c40 : x12_2 < (t149.length : Int)
                · rw [if_pos c40] at H
                  have c40b0 : decide (x12_2 < (t149.length : Int)) = true := decide_eq_true c40
                  clear c40
                  by_cases c41 : 0 ≤ x12_2
                  · rw [if_pos c41] at H
                    have c41b0 : decide (0 ≤ x12_2) = true := decide_eq_true c41
                    clear c41
                    replace H := Option.bind_eq_some_iff.mp H
                    obtain ⟨t153, A420, H⟩ := H
                    replace H : (if (t153.length : Int) = 0 then (none) else ((identity_Members.f x8_1 (rdOf ByteArray.empty t149 x12_2)).bind fun t157 => ((flagstoneref1_Same.f k2 t153 t157).bind fun t160 => (if t160 = true then ((identity_Forest.f t132).bind fun t161 => ((identity_Members.f t161 (rdOf ByteArray.empty t149 x12_2)).bind fun t165 => ((flagstoneref1_Same.f k2 t153 t165).bind fun t168 => (if t168 = true then ((identity_Root.f x8_1 (rdOf ByteArray.empty t149 x12_2)).bind fun t170 => (if 0 < (t153.length : Int) then (if t170.toList = (rdOf ByteArray.empty t153 0).toList then (flagstonelaw26_IdentityOrder.l1 k2 t132 x8_1 t149 (wrap64 (x12_2 + 1))) else (none)) else (none))) else (none))))) else (none))))) = some r := H
                    have A42 := Aside0.mk A420
                    clear A420
                    by_cases c43 : (t153.length : Int) = 0
                    · rw [if_pos c43] at H
                      have c43b0 : ((t153.length : Int) == 0) = true := beq_iff_eq.mpr c43
                      have c43b1 : ((t153.length : Int) != 0) = false := bne_eq_false_iff_eq.mpr c43
                      clear c43
                      exact absurd H (by simp)
                    · rw [if_neg c43] at H
                      have c43b0 : ((t153.length : Int) == 0) = false := beq_eq_false_iff_ne.mpr c43
                      have c43b1 : ((t153.length : Int) != 0) = true := bne_iff_ne.mpr c43
                      have c43b2 : ¬ (t153 = []) := fun h_ => c43 (by rw [h_]; rfl)
                      replace H := Option.bind_eq_some_iff.mp H
                      obtain ⟨t157, A440, H⟩ := H
                      replace H : ((flagstoneref1_Same.f k2 t153 t157).bind fun t160 => (if t160 = true then ((identity_Forest.f t132).bind fun t161 => ((identity_Members.f t161 (rdOf ByteArray.empty t149 x12_2)).bind fun t165 => ((flagstoneref1_Same.f k2 t153 t165).bind fun t168 => (if t168 = true then ((identity_Root.f x8_1 (rdOf ByteArray.empty t149 x12_2)).bind fun t170 => (if 0 < (t153.length : Int) then (if t170.toList = (rdOf ByteArray.empty t153 0).toList then (flagstonelaw26_IdentityOrder.l1 k2 t132 x8_1 t149 (wrap64 (x12_2 + 1))) else (none)) else (none))) else (none))))) else (none))) = some r := H
                      have A44 := Aside0.mk A440
                      clear A440
                      replace H := Option.bind_eq_some_iff.mp H
                      obtain ⟨t160, A450, H⟩ := H
                      replace H : (if t160 = true then ((identity_Forest.f t132).bind fun t161 => ((identity_Members.f t161 (rdOf ByteArray.empty t149 x12_2)).bind fun t165 => ((flagstoneref1_Same.f k2 t153 t165).bind fun t168 => (if t168 = true then ((identity_Root.f x8_1 (rdOf ByteArray.empty t149 x12_2)).bind fun t170 => (if 0 < (t153.length : Int) then (if t170.toList = (rdOf ByteArray.empty t153 0).toList then (flagstonelaw26_IdentityOrder.l1 k2 t132 x8_1 t149 (wrap64 (x12_2 + 1))) else (none)) else (none))) else (none))))) else (none)) = some r := H
                      have A45 := Aside0.mk A450
                      clear A450
                      by_cases c46 : t160 = true
                      · subst c46
                        have H1 : ((identity_Forest.f t132).bind fun t161 => ((identity_Members.f t161 (rdOf ByteArray.empty t149 x12_2)).bind fun t165 => ((flagstoneref1_Same.f k2 t153 t165).bind fun t168 => (if t168 = true then ((identity_Root.f x8_1 (rdOf ByteArray.empty t149 x12_2)).bind fun t170 => (if 0 < (t153.length : Int) then (if t170.toList = (rdOf ByteArray.empty t153 0).toList then (flagstonelaw26_IdentityOrder.l1 k2 t132 x8_1 t149 (wrap64 (x12_2 + 1))) else (none)) else (none))) else (none))))) = some r := by rw [if_pos rfl] at H; exact H
                        clear H
                        have H := H1
                        clear H1
                        replace H := Option.bind_eq_some_iff.mp H
                        obtain ⟨t161, A470, H⟩ := H
                        replace H : ((identity_Members.f t161 (rdOf ByteArray.empty t149 x12_2)).bind fun t165 => ((flagstoneref1_Same.f k2 t153 t165).bind fun t168 => (if t168 = true then ((identity_Root.f x8_1 (rdOf ByteArray.empty t149 x12_2)).bind fun t170 => (if 0 < (t153.length : Int) then (if t170.toList = (rdOf ByteArray.empty t153 0).toList then (flagstonelaw26_IdentityOrder.l1 k2 t132 x8_1 t149 (wrap64 (x12_2 + 1))) else (none)) else (none))) else (none)))) = some r := H
                        have A47 := Aside0.mk A470
                        clear A470
                        replace H := Option.bind_eq_some_iff.mp H
                        obtain ⟨t165, A480, H⟩ := H
                        replace H : ((flagstoneref1_Same.f k2 t153 t165).bind fun t168 => (if t168 = true then ((identity_Root.f x8_1 (rdOf ByteArray.empty t149 x12_2)).bind fun t170 => (if 0 < (t153.length : Int) then (if t170.toList = (rdOf ByteArray.empty t153 0).toList then (flagstonelaw26_IdentityOrder.l1 k2 t132 x8_1 t149 (wrap64 (x12_2 + 1))) else (none)) else (none))) else (none))) = some r := H
                        have A48 := Aside0.mk A480
                        clear A480
                        replace H := Option.bind_eq_some_iff.mp H
                        obtain ⟨t168, A490, H⟩ := H
                        replace H : (if t168 = true then ((identity_Root.f x8_1 (rdOf ByteArray.empty t149 x12_2)).bind fun t170 => (if 0 < (t153.length : Int) then (if t170.toList = (rdOf ByteArray.empty t153 0).toList then (flagstonelaw26_IdentityOrder.l1 k2 t132 x8_1 t149 (wrap64 (x12_2 + 1))) else (none)) else (none))) else (none)) = some r := H
                        have A49 := Aside0.mk A490
                        clear A490
                        by_cases c50 : t168 = true
                        · subst c50
                          have H1 : ((identity_Root.f x8_1 (rdOf ByteArray.empty t149 x12_2)).bind fun t170 => (if 0 < (t153.length : Int) then (if t170.toList = (rdOf ByteArray.empty t153 0).toList then (flagstonelaw26_IdentityOrder.l1 k2 t132 x8_1 t149 (wrap64 (x12_2 + 1))) else (none)) else (none))) = some r := by rw [if_pos rfl] at H; exact H
                          clear H
                          have H := H1
                          clear H1
                          replace H := Option.bind_eq_some_iff.mp H
                          obtain ⟨t170, A510, H⟩ := H
                          replace H : (if 0 < (t153.length : Int) then (if t170.toList = (rdOf ByteArray.empty t153 0).toList then (flagstonelaw26_IdentityOrder.l1 k2 t132 x8_1 t149 (wrap64 (x12_2 + 1))) else (none)) else (none)) = some r := H
                          have A51 := Aside0.mk A510
                          clear A510
                          by_cases c52 : 0 < (t153.length : Int)
                          · rw [if_pos c52] at H
                            have c52b0 : decide (0 < (t153.length : Int)) = true := decide_eq_true c52
                            have c52b1 : decide (0 < t153.length) = true := decide_eq_true (by omega)
                            clear c52
                            by_cases c53 : t170.toList = (rdOf ByteArray.empty t153 0).toList
                            · rw [if_pos c53] at H
                              have c53b0 : (t170.toList == (rdOf ByteArray.empty t153 0).toList) = true := beq_iff_eq.mpr c53
                              have c53b1 : (t170.toList != (rdOf ByteArray.empty t153 0).toList) = false := bne_eq_false_iff_eq.mpr c53
                              clear c53
                              have H' := Aside0.mk H
                              clear H
                              obtain ⟨Ao54, co54, eo54⟩ := Kd.R_slice HO_11.out
                              subst eo54
                              have p152 : 0 ≤ (x12_2 : Int) := of_decide_eq_true (by first | (with_reducible assumption) | assumption)
                              have q152 : x12_2 < (t149.length : Int) := of_decide_eq_true (by first | (with_reducible assumption) | assumption)
                              obtain ⟨ad152, e152, hx152_0⟩ := Kd.at_string (Kd.R_reads' HO_11.out).2.2 x12_2 p152 q152
                              cases e152
                              replace p152 := eq_true p152
                              replace q152 := eq_true q152
                              try go_wp2_with (first | ((with_reducible refine gate_callee (f := 18) rfl ?_); refine goesL_ (some 70) rfl rfl Try.func18 (by kernel_rfl) rfl #[.slice Ao11 t132.length co11, .string (rdOf ByteArray.empty t149 x12_2)] rfl (by (try simp only [List.map_toArray, List.map_cons, List.map_nil]); first | done | rfl | (simp only [List.length_drop, List.length_take]; rfl)) ?_; (with_reducible refine (identity_Members.calls _ _ t132 (rdOf ByteArray.empty t149 x12_2) t153 _ ?side1 ?side2 A42.out).mono ?_); (case side1 => repeat (first | exact (Kd.R_reads' HO_7.out).2.2 | (with_reducible refine Kd.C_alloc ?_ _) | (with_reducible refine Kd.C_drewN ?_ _) | (with_reducible refine Kd.C_drew ?_))); (case side2 => exact (Kd.R_reads' HO_7.out).2.1); rintro e w55 ⟨v154, rfl, ho0, hb⟩; refine ⟨_, rfl, ?_⟩; have n0_ := Aside0.mk (Kd.R_below (by (with_reducible repeat (first | apply Kd.R_alloc | apply Kd.R_drewN | apply Kd.R_drew)); exact HO_7.out) hb); have n1_ := Aside0.mk (Kd.R_below (by (with_reducible repeat (first | apply Kd.R_alloc | apply Kd.R_drewN | apply Kd.R_drew)); exact HO_8.out) hb); have n2_ := Aside0.mk (Kd.R_elder' (by (with_reducible repeat (first | apply Kd.R_alloc | apply Kd.R_drewN | apply Kd.R_drew)); exact HO_11.out) (Kd.R_base ho0) hb); have n3_ := Aside0.mk (Kd.R_lower (Kd.R_new' ho0 (Kd.R_lt (by (with_reducible repeat (first | apply Kd.R_alloc | apply Kd.R_drewN | apply Kd.R_drew)); exact HO_11.out))) (below_size (by repeat (first | (with_reducible first | exact HB.out | apply below_alloc | apply pw_below_drewN | apply below_drew1) | exact HB.out)))); have n4_ := Aside0.mk (below_step (by repeat (first | (with_reducible first | exact HB.out | apply below_alloc | apply pw_below_drewN | apply below_drew1) | exact HB.out)) hb); clear HO_7; clear HO_8; clear HO_11; clear HB; have HO_7 := n0_; have HO_8 := n1_; have HO_11 := n2_; have HO155 := n3_; have HB := n4_; clear n0_ n1_ n2_ n3_ n4_; (try clear hb); (try clear hb2); (try clear hk); (try clear hi); (try clear ho0)))
                              have n0_ := Aside0.mk (Kd.R_drew HO_7.out)
                              have n1_ := Aside0.mk (Kd.R_drew HO_8.out)
                              have n2_ := Aside0.mk (Kd.R_drew HO_11.out)
                              have n3_ := Aside0.mk (Kd.R_drew HO155.out)
                              have n4_ := Aside0.mk (below_drew1 HB.out)
                              clear HO_7
                              clear HO_8
                              clear HO_11
                              clear HO155
                              clear HB
                              have HO_7 := n0_
                              have HO_8 := n1_
                              have HO_11 := n2_
                              have HO155 := n3_
                              have HB := n4_
                              clear n0_ n1_ n2_ n3_ n4_
                              obtain ⟨Ao57, co57, eo57⟩ := Kd.R_slice HO155.out
                              (first | subst eo57 | (injection eo57 with f1_ f2_ f3_; have f4_ := f1_.symm; have f5_ := f3_.symm; clear f1_ f2_ f3_; subst f4_; subst f5_))
                              have p156 : 0 ≤ (x12_2 : Int) := of_decide_eq_true (by first | (with_reducible assumption) | assumption)
                              have q156 : x12_2 < (t149.length : Int) := of_decide_eq_true (by first | (with_reducible assumption) | assumption)
                              obtain ⟨ad156, e156, hx156_0⟩ := Kd.at_string (Kd.R_reads' HO_11.out).2.2 x12_2 p156 q156
                              obtain rfl : ad152 = ad156 := (by injection e156)
                              replace p156 := eq_true p156
                              replace q156 := eq_true q156
                              obtain ⟨Ao58, co58, eo58⟩ := Kd.R_slice HO_8.out
                              (first | subst eo58 | (injection eo58 with f1_ f2_ f3_; have f4_ := f1_.symm; have f5_ := f3_.symm; clear f1_ f2_ f3_; subst f4_; subst f5_))
                              have p164 : 0 ≤ (x12_2 : Int) := of_decide_eq_true (by first | (with_reducible assumption) | assumption)
                              have q164 : x12_2 < (t149.length : Int) := of_decide_eq_true (by first | (with_reducible assumption) | assumption)
                              obtain ⟨ad164, e164, hx164_0⟩ := Kd.at_string (Kd.R_reads' HO_11.out).2.2 x12_2 p164 q164
                              obtain rfl : ad152 = ad164 := (by injection e164)
                              replace p164 := eq_true p164
                              replace q164 := eq_true q164
                              have p169 : 0 ≤ (x12_2 : Int) := of_decide_eq_true (by first | (with_reducible assumption) | assumption)
                              have q169 : x12_2 < (t149.length : Int) := of_decide_eq_true (by first | (with_reducible assumption) | assumption)
                              obtain ⟨ad169, e169, hx169_0⟩ := Kd.at_string (Kd.R_reads' HO_11.out).2.2 x12_2 p169 q169
                              obtain rfl : ad152 = ad169 := (by injection e169)
                              replace p169 := eq_true p169
                              replace q169 := eq_true q169
                              have p171 : 0 ≤ (0 : Int) := (by omega)
                              have q171 : 0 < (t153.length : Int) := of_decide_eq_true (by first | (with_reducible assumption) | assumption)
                              obtain ⟨ad171, e171, hx171_0⟩ := Kd.at_string (Kd.R_reads' HO155.out).2.2 0 p171 q171
                              cases e171
                              have qi171 : (0 < t153.length) = True := eq_true (by omega)
                              (try rw [show ((0 : Int)).toNat = 0 from rfl] at hx171_0)
                              (try rw [Addr.add_zero'] at hx171_0)
                              replace p171 := eq_true p171
                              replace q171 := eq_true q171
                              refine start_ (n := 38) (S := fun w' => w'.cell? (ad152.add (x12_2).toNat) = some (.string (rdOf ByteArray.empty t149 x12_2)) ∧ w'.cell? (ad152.add (x12_2).toNat) = some (.string (rdOf ByteArray.empty t149 x12_2)) ∧ w'.cell? (ad152.add (x12_2).toNat) = some (.string (rdOf ByteArray.empty t149 x12_2)) ∧ w'.cell? ad171 = some (.string (rdOf ByteArray.empty t153 0))) (ds := []) #[false, false, false, false, false, false, false, false, false, false, false, false, false, false, false, false, false, false, false, false, false, false, false, false, false, false, false, false, false, false, false, false, false, false, false, false, false, false] (by kernel_rfl) rfl rfl ⟨hx156_0, hx164_0, hx169_0, hx171_0⟩ (fun hHeld => ?_); refine with_tabW flagstonelaw26_IdentityOrder.tab21 flagstonelaw26_IdentityOrder.bits21 (fun HT_ HW_ => ?_)
                              generalize w55.drew = w56 at HO_7 HO_8 HO_11 HO155 HB hx156_0 hx164_0 hx169_0 hx171_0 hHeld ⊢
                              refine pure_ (i := 0) (N := some 71) (v := ?_) (a' := ?_) #[true, false, false, false, false, false, false, false, false, false, false, false, false, false, false, false, false, false, false, false, false, false, false, false, false, false, false, false, false, false, false, false, false, false, false, false, false, false] rfl rfl (any_of HT_.out (by kernel_rfl)) (fun _ _ _ h => h) (Or.inl ⟨by rfl, ?_⟩) ?_ ?_
                              rotate_left
                              · intro w'
                                go_simp
                                with_reducible rfl
                              rotate_left
                              · simp only [Act.put, List.setIfInBounds_toArray, List.set_cons_zero, List.set_cons_succ, i64_w, i32_w]
                                rfl
                              refine pure_ (i := 1) (N := some 72) (v := ?_) (a' := ?_) #[true, true, false, false, false, false, false, false, false, false, false, false, false, false, false, false, false, false, false, false, false, false, false, false, false, false, false, false, false, false, false, false, false, false, false, false, false, false] rfl rfl (any_of HT_.out (by kernel_rfl)) (fun _ _ _ h => h) (Or.inl ⟨by rfl, ?_⟩) ?_ ?_
                              rotate_left
                              · intro w'
                                go_simp
                                with_reducible rfl
                              rotate_left
                              · simp only [Act.put, List.setIfInBounds_toArray, List.set_cons_zero, List.set_cons_succ, i64_w, i32_w]
                                rfl
                              refine pure_ (i := 2) (N := some 73) (v := ?_) (a' := ?_) #[true, true, true, false, false, false, false, false, false, false, false, false, false, false, false, false, false, false, false, false, false, false, false, false, false, false, false, false, false, false, false, false, false, false, false, false, false, false] rfl rfl (any_of HT_.out (by kernel_rfl)) (fun _ _ _ h => h) (Or.inl ⟨by rfl, ?_⟩) ?_ ?_
                              rotate_left
                              · intro w'
                                go_simp
                                with_reducible rfl
                              rotate_left
                              · simp only [Act.put, List.setIfInBounds_toArray, List.set_cons_zero, List.set_cons_succ, i64_w, i32_w]
                                rfl
                              refine pure_ (i := 3) (N := some 74) (v := ?_) (a' := ?_) #[true, true, true, true, false, false, false, false, false, false, false, false, false, false, false, false, false, false, false, false, false, false, false, false, false, false, false, false, false, false, false, false, false, false, false, false, false, false] rfl rfl (any_of HT_.out (by kernel_rfl)) (fun _ _ _ h => h) (Or.inl ⟨by rfl, ?_⟩) ?_ ?_
                              rotate_left
                              · intro w'
                                go_simp
                                with_reducible rfl
                              rotate_left
                              · simp only [Act.put, List.setIfInBounds_toArray, List.set_cons_zero, List.set_cons_succ, i64_w, i32_w]
                                rfl
                              refine pure_ (i := 4) (N := some 75) (v := ?_) (a' := ?_) #[true, true, true, true, true, false, false, false, false, false, false, false, false, false, false, false, false, false, false, false, false, false, false, false, false, false, false, false, false, false, false, false, false, false, false, false, false, false] rfl rfl (any_of HT_.out (by kernel_rfl)) (fun _ _ _ h => h) (Or.inl ⟨by rfl, ?_⟩) ?_ ?_
                              rotate_left
                              · intro w'
                                go_simp
                                with_reducible rfl
                              rotate_left
                              · simp only [Act.put, List.setIfInBounds_toArray, List.set_cons_zero, List.set_cons_succ, i64_w, i32_w]
                                rfl
                              refine pure_ (i := 5) (N := some 76) (v := ?_) (a' := ?_) #[true, true, true, true, true, true, false, false, false, false, false, false, false, false, false, false, false, false, false, false, false, false, false, false, false, false, false, false, false, false, false, false, false, false, false, false, false, false] rfl rfl (any_of HT_.out (by kernel_rfl)) (fun _ _ _ h => h) (Or.inl ⟨by rfl, ?_⟩) ?_ ?_
                              rotate_left
                              · intro w'
                                go_simp
                                with_reducible rfl
                              rotate_left
                              · simp only [Act.put, List.setIfInBounds_toArray, List.set_cons_zero, List.set_cons_succ, i64_w, i32_w]
                                rfl
                              refine pure_ (i := 6) (N := some 77) (v := ?_) (a' := ?_) #[true, true, true, true, true, true, true, false, false, false, false, false, false, false, false, false, false, false, false, false, false, false, false, false, false, false, false, false, false, false, false, false, false, false, false, false, false, false] rfl rfl (any_of HT_.out (by kernel_rfl)) (fun _ _ _ h => h) (Or.inl ⟨by rfl, ?_⟩) ?_ ?_
                              rotate_left
                              · intro w'
                                go_simp
                                with_reducible rfl
                              rotate_left
                              · simp only [Act.put, List.setIfInBounds_toArray, List.set_cons_zero, List.set_cons_succ, i64_w, i32_w]
                                rfl
                              refine pure_ (i := 7) (N := some 78) (v := ?_) (a' := ?_) #[true, true, true, true, true, true, true, true, false, false, false, false, false, false, false, false, false, false, false, false, false, false, false, false, false, false, false, false, false, false, false, false, false, false, false, false, false, false] rfl rfl (any_of HT_.out (by kernel_rfl)) (fun _ _ _ h => h) (Or.inl ⟨by rfl, ?_⟩) ?_ ?_
                              rotate_left
                              · intro w'
                                go_simp
                                with_reducible rfl
                              rotate_left
                              · simp only [Act.put, List.setIfInBounds_toArray, List.set_cons_zero, List.set_cons_succ, i64_w, i32_w]
                                rfl
                              refine pure_ (i := 8) (N := some 79) (v := ?_) (a' := ?_) #[true, true, true, true, true, true, true, true, true, false, false, false, false, false, false, false, false, false, false, false, false, false, false, false, false, false, false, false, false, false, false, false, false, false, false, false, false, false] rfl rfl (any_of HT_.out (by kernel_rfl)) (fun _ _ _ h => h) (Or.inl ⟨by rfl, ?_⟩) ?_ ?_
                              rotate_left
                              · intro w'
                                go_simp
                                with_reducible rfl
                              rotate_left
                              · simp only [Act.put, List.setIfInBounds_toArray, List.set_cons_zero, List.set_cons_succ, i64_w, i32_w]
                                rfl
                              refine take_ (i := 9) (N := some 80) (v := ?_) (a' := ?_) #[true, true, true, true, true, true, true, true, true, true, false, false, false, false, false, false, false, false, false, false, false, false, false, false, false, false, false, false, false, false, false, false, false, false, false, false, false, false] rfl rfl (take_ofW HT_.out HW_.out (by kernel_rfl)) (fun _ _ _ h => h) (Or.inl ⟨by rfl, ?_⟩) hHeld ?_ ?_
                              rotate_left
                              · rintro w' ⟨s0, s1, s2, s3⟩
                                go_simp
                                with_reducible rfl
                              rotate_left
                              · simp only [Act.put, List.setIfInBounds_toArray, List.set_cons_zero, List.set_cons_succ, i64_w, i32_w]
                                rfl
                              refine one_ (i := 10) (N := some 81) #[true, true, true, true, true, true, true, true, true, true, true, false, false, false, false, false, false, false, false, false, false, false, false, false, false, false, false, false, false, false, false, false, false, false, false, false, false, false] rfl rfl (one_of HT_.out (by kernel_rfl)) (by decide) (fun K hK => ?_)
                              refine goes_ Try.func18 (by kernel_rfl) rfl #[.slice Ao58 x8_1.length co58, .string (rdOf ByteArray.empty t149 x12_2)] (by rfl) rfl rfl (by (try simp only [List.map_toArray, List.map_cons, List.map_nil]); first | done | rfl | (simp only [List.length_drop, List.length_take]; rfl)) ?_
                              with_reducible refine (identity_Members.calls _ _ x8_1 (rdOf ByteArray.empty t149 x12_2) t157 _ ?side1 ?side2 A44.out).mono ?_
                              (case side1 => repeat (first | exact (Kd.R_reads' HO_8.out).2.2 | (with_reducible refine Kd.C_alloc ?_ _) | (with_reducible refine Kd.C_drewN ?_ _) | (with_reducible refine Kd.C_drew ?_)))
                              (case side2 => exact (Kd.R_reads' HO_8.out).2.1)
                              rintro e w59 ⟨v158, rfl, ho0, hb⟩
                              have HS0_ := (hb.cell (World.block_lt_of_cell? _ _ (hHeld.1))).trans (hHeld.1)
                              have HS1_ := (hb.cell (World.block_lt_of_cell? _ _ (hHeld.2.1))).trans (hHeld.2.1)
                              have HS2_ := (hb.cell (World.block_lt_of_cell? _ _ (hHeld.2.2.1))).trans (hHeld.2.2.1)
                              have HS3_ := (hb.cell (World.block_lt_of_cell? _ _ (hHeld.2.2.2))).trans (hHeld.2.2.2)
                              refine ⟨_, rfl, ?_⟩
                              have n0_ := Aside0.mk (Kd.R_below (by (with_reducible repeat (first | apply Kd.R_alloc | apply Kd.R_drewN | apply Kd.R_drew)); exact HO_7.out) hb)
                              have n1_ := Aside0.mk (Kd.R_below (by (with_reducible repeat (first | apply Kd.R_alloc | apply Kd.R_drewN | apply Kd.R_drew)); exact HO_8.out) hb)
                              have n2_ := Aside0.mk (Kd.R_elder' (by (with_reducible repeat (first | apply Kd.R_alloc | apply Kd.R_drewN | apply Kd.R_drew)); exact HO_11.out) (Kd.R_base ho0) hb)
                              have n3_ := Aside0.mk (Kd.R_elder' (by (with_reducible repeat (first | apply Kd.R_alloc | apply Kd.R_drewN | apply Kd.R_drew)); exact HO155.out) (Kd.R_base ho0) hb)
                              have n4_ := Aside0.mk (Kd.R_lower (Kd.R_new' (Kd.R_new' ho0 (Kd.R_lt (by (with_reducible repeat (first | apply Kd.R_alloc | apply Kd.R_drewN | apply Kd.R_drew)); exact HO_11.out))) (Kd.R_lt (by (with_reducible repeat (first | apply Kd.R_alloc | apply Kd.R_drewN | apply Kd.R_drew)); exact HO155.out))) (below_size (by repeat (first | (with_reducible first | exact HB.out | apply below_alloc | apply pw_below_drewN | apply below_drew1) | exact HB.out))))
                              have n5_ := Aside0.mk (below_step (by repeat (first | (with_reducible first | exact HB.out | apply below_alloc | apply pw_below_drewN | apply below_drew1) | exact HB.out)) hb)
                              clear HO_7
                              clear HO_8
                              clear HO_11
                              clear HO155
                              clear HB
                              have HO_7 := n0_
                              have HO_8 := n1_
                              have HO_11 := n2_
                              have HO155 := n3_
                              have HO159 := n4_
                              have HB := n5_
                              clear n0_ n1_ n2_ n3_ n4_ n5_
                              (try clear hb)
                              (try clear hb2)
                              (try clear hk)
                              (try clear hi)
                              (try clear ho0)
                              obtain ⟨Ao60, co60, eo60⟩ := Kd.R_slice HO159.out
                              (first | subst eo60 | (injection eo60 with f1_ f2_ f3_; have f4_ := f1_.symm; have f5_ := f3_.symm; clear f1_ f2_ f3_; subst f4_; subst f5_))
                              refine hK.out _ _ ⟨HS0_, HS1_, HS2_, HS3_⟩ (fun hHeld => ?_)
                              clear hK K
                              refine norm_ (a' := ?_) ?_ ?_
                              rotate_left
                              · show Act.put _ (some 81) _ = _
                                simp only [Act.put, List.setIfInBounds_toArray, List.set_cons_zero, List.set_cons_succ, i64_w, i32_w]
                                rfl
                              refine one_ (i := 11) (N := some 82) #[true, true, true, true, true, true, true, true, true, true, true, true, false, false, false, false, false, false, false, false, false, false, false, false, false, false, false, false, false, false, false, false, false, false, false, false, false, false] rfl rfl (one_of HT_.out (by kernel_rfl)) (by decide) (fun K hK => ?_)
                              refine goes_ Try.func19 (by kernel_rfl) rfl #[.slice (some ad171) t153.length co57, .slice Ao60 t157.length co60] (by rfl) rfl rfl (by (try simp only [List.map_toArray, List.map_cons, List.map_nil]); first | done | rfl | (simp only [List.length_drop, List.length_take]; rfl)) ?_
                              with_reducible refine (flagstoneref1_Same.calls k2 _ _ t153 _ _ t157 true _ ?side1 ?side2 ?side3 ?side4 A45.out).mono ?_
                              (case side1 => repeat (first | exact (Kd.R_reads' HO155.out).2.2 | (with_reducible refine Kd.C_alloc ?_ _) | (with_reducible refine Kd.C_drewN ?_ _) | (with_reducible refine Kd.C_drew ?_)))
                              (case side2 => exact (Kd.R_reads' HO155.out).2.1)
                              (case side3 => repeat (first | exact (Kd.R_reads' HO159.out).2.2 | (with_reducible refine Kd.C_alloc ?_ _) | (with_reducible refine Kd.C_drewN ?_ _) | (with_reducible refine Kd.C_drew ?_)))
                              (case side4 => exact (Kd.R_reads' HO159.out).2.1)
                              rintro e w' ⟨rfl, ⟨nd, rfl⟩⟩
                              refine ⟨_, rfl, ?_⟩
                              refine hK.out _ _ ⟨hHeld.1, hHeld.2.1, hHeld.2.2.1, hHeld.2.2.2⟩ (fun hHeld => ?_)
                              clear hK K
                              refine norm_ (a' := ?_) ?_ ?_
                              rotate_left
                              · show Act.put _ (some 82) _ = _
                                simp only [Act.put, List.setIfInBounds_toArray, List.set_cons_zero, List.set_cons_succ, i64_w, i32_w]
                                rfl
                              refine pure_ (i := 12) (N := some 83) (v := ?_) (a' := ?_) #[true, true, true, true, true, true, true, true, true, true, true, true, true, false, false, false, false, false, false, false, false, false, false, false, false, false, false, false, false, false, false, false, false, false, false, false, false, false] rfl rfl (any_of HT_.out (by kernel_rfl)) (fun _ _ _ h => h) (Or.inl ⟨by rfl, ?_⟩) ?_ ?_
                              rotate_left
                              · intro w'
                                go_simp
                                with_reducible rfl
                              rotate_left
                              · simp only [Act.put, List.setIfInBounds_toArray, List.set_cons_zero, List.set_cons_succ, i64_w, i32_w]
                                rfl
                              refine pure_ (i := 13) (N := some 84) (v := ?_) (a' := ?_) #[true, true, true, true, true, true, true, true, true, true, true, true, true, true, false, false, false, false, false, false, false, false, false, false, false, false, false, false, false, false, false, false, false, false, false, false, false, false] rfl rfl (any_of HT_.out (by kernel_rfl)) (fun _ _ _ h => h) (Or.inl ⟨by rfl, ?_⟩) ?_ ?_
                              rotate_left
                              · intro w'
                                go_simp
                                with_reducible rfl
                              rotate_left
                              · simp only [Act.put, List.setIfInBounds_toArray, List.set_cons_zero, List.set_cons_succ, i64_w, i32_w]
                                rfl
                              refine pure_ (i := 14) (N := some 85) (v := ?_) (a' := ?_) #[true, true, true, true, true, true, true, true, true, true, true, true, true, true, true, false, false, false, false, false, false, false, false, false, false, false, false, false, false, false, false, false, false, false, false, false, false, false] rfl rfl (any_of HT_.out (by kernel_rfl)) (fun _ _ _ h => h) (Or.inl ⟨by rfl, ?_⟩) ?_ ?_
                              rotate_left
                              · intro w'
                                go_simp
                                with_reducible rfl
                              rotate_left
                              · simp only [Act.put, List.setIfInBounds_toArray, List.set_cons_zero, List.set_cons_succ, i64_w, i32_w]
                                rfl
                              refine pure_ (i := 15) (N := some 86) (v := ?_) (a' := ?_) #[true, true, true, true, true, true, true, true, true, true, true, true, true, true, true, true, false, false, false, false, false, false, false, false, false, false, false, false, false, false, false, false, false, false, false, false, false, false] rfl rfl (any_of HT_.out (by kernel_rfl)) (fun _ _ _ h => h) (Or.inl ⟨by rfl, ?_⟩) ?_ ?_
                              rotate_left
                              · intro w'
                                go_simp
                                with_reducible rfl
                              rotate_left
                              · simp only [Act.put, List.setIfInBounds_toArray, List.set_cons_zero, List.set_cons_succ, i64_w, i32_w]
                                rfl
                              refine pure_ (i := 16) (N := some 87) (v := ?_) (a' := ?_) #[true, true, true, true, true, true, true, true, true, true, true, true, true, true, true, true, true, false, false, false, false, false, false, false, false, false, false, false, false, false, false, false, false, false, false, false, false, false] rfl rfl (any_of HT_.out (by kernel_rfl)) (fun _ _ _ h => h) (Or.inl ⟨by rfl, ?_⟩) ?_ ?_
                              rotate_left
                              · intro w'
                                go_simp
                                with_reducible rfl
                              rotate_left
                              · simp only [Act.put, List.setIfInBounds_toArray, List.set_cons_zero, List.set_cons_succ, i64_w, i32_w]
                                rfl
                              refine pure_ (i := 18) (N := some 89) (v := ?_) (a' := ?_) #[true, true, true, true, true, true, true, true, true, true, true, true, true, true, true, true, true, false, true, false, false, false, false, false, false, false, false, false, false, false, false, false, false, false, false, false, false, false] rfl rfl (any_of HT_.out (by kernel_rfl)) (fun _ _ _ h => h) (Or.inl ⟨by rfl, ?_⟩) ?_ ?_
                              rotate_left
                              · intro w'
                                go_simp
                                with_reducible rfl
                              rotate_left
                              · simp only [Act.put, List.setIfInBounds_toArray, List.set_cons_zero, List.set_cons_succ, i64_w, i32_w]
                                rfl
                              refine pure_ (i := 19) (N := some 90) (v := ?_) (a' := ?_) #[true, true, true, true, true, true, true, true, true, true, true, true, true, true, true, true, true, false, true, true, false, false, false, false, false, false, false, false, false, false, false, false, false, false, false, false, false, false] rfl rfl (any_of HT_.out (by kernel_rfl)) (fun _ _ _ h => h) (Or.inl ⟨by rfl, ?_⟩) ?_ ?_
                              rotate_left
                              · intro w'
                                go_simp
                                with_reducible rfl
                              rotate_left
                              · simp only [Act.put, List.setIfInBounds_toArray, List.set_cons_zero, List.set_cons_succ, i64_w, i32_w]
                                rfl
                              refine pure_ (i := 20) (N := some 91) (v := ?_) (a' := ?_) #[true, true, true, true, true, true, true, true, true, true, true, true, true, true, true, true, true, false, true, true, true, false, false, false, false, false, false, false, false, false, false, false, false, false, false, false, false, false] rfl rfl (any_of HT_.out (by kernel_rfl)) (fun _ _ _ h => h) (Or.inl ⟨by rfl, ?_⟩) ?_ ?_
                              rotate_left
                              · intro w'
                                go_simp
                                with_reducible rfl
                              rotate_left
                              · simp only [Act.put, List.setIfInBounds_toArray, List.set_cons_zero, List.set_cons_succ, i64_w, i32_w]
                                rfl
                              refine take_ (i := 21) (N := some 92) (v := ?_) (a' := ?_) #[true, true, true, true, true, true, true, true, true, true, true, true, true, true, true, true, true, false, true, true, true, true, false, false, false, false, false, false, false, false, false, false, false, false, false, false, false, false] rfl rfl (take_ofW HT_.out HW_.out (by kernel_rfl)) (fun _ _ _ h => h) (Or.inl ⟨by rfl, ?_⟩) hHeld ?_ ?_
                              rotate_left
                              · rintro w' ⟨s0, s1, s2, s3⟩
                                go_simp
                                with_reducible rfl
                              rotate_left
                              · simp only [Act.put, List.setIfInBounds_toArray, List.set_cons_zero, List.set_cons_succ, i64_w, i32_w]
                                rfl
                              refine one_ (i := 17) (N := some 88) #[true, true, true, true, true, true, true, true, true, true, true, true, true, true, true, true, true, true, true, true, true, true, false, false, false, false, false, false, false, false, false, false, false, false, false, false, false, false] rfl rfl (one_of HT_.out (by kernel_rfl)) (by decide) (fun K hK => ?_)
                              refine goes_ Try.func21 (by kernel_rfl) rfl #[.slice Ao11 t132.length co11] (by rfl) rfl rfl (by (try simp only [List.map_toArray, List.map_cons, List.map_nil]); first | done | rfl | (simp only [List.length_drop, List.length_take]; rfl)) ?_
                              with_reducible refine (identity_Forest.calls _ _ t132 t161 _ ?side1 ?side2 A47.out).mono ?_
                              (case side1 => repeat (first | exact (Kd.R_reads' HO_7.out).2.2 | (with_reducible refine Kd.C_alloc ?_ _) | (with_reducible refine Kd.C_drewN ?_ _) | (with_reducible refine Kd.C_drew ?_)))
                              (case side2 => exact (Kd.R_reads' HO_7.out).2.1)
                              rintro e w61 ⟨v162, rfl, ho0, hb⟩
                              have HS0_ := (hb.cell (World.block_lt_of_cell? _ _ (hHeld.1))).trans (hHeld.1)
                              have HS1_ := (hb.cell (World.block_lt_of_cell? _ _ (hHeld.2.1))).trans (hHeld.2.1)
                              have HS2_ := (hb.cell (World.block_lt_of_cell? _ _ (hHeld.2.2.1))).trans (hHeld.2.2.1)
                              have HS3_ := (hb.cell (World.block_lt_of_cell? _ _ (hHeld.2.2.2))).trans (hHeld.2.2.2)
                              refine ⟨_, rfl, ?_⟩
                              have n0_ := Aside0.mk (Kd.R_elder' (by (with_reducible repeat (first | apply Kd.R_alloc | apply Kd.R_drewN | apply Kd.R_drew)); exact HO_7.out) (Kd.R_base ho0) hb)
                              have n1_ := Aside0.mk (Kd.R_elder' (by (with_reducible repeat (first | apply Kd.R_alloc | apply Kd.R_drewN | apply Kd.R_drew)); exact HO_8.out) (Kd.R_base ho0) hb)
                              have n2_ := Aside0.mk (Kd.R_below (by (with_reducible repeat (first | apply Kd.R_alloc | apply Kd.R_drewN | apply Kd.R_drew)); exact HO_11.out) hb)
                              have n3_ := Aside0.mk (Kd.R_below (by (with_reducible repeat (first | apply Kd.R_alloc | apply Kd.R_drewN | apply Kd.R_drew)); exact HO155.out) hb)
                              have n4_ := Aside0.mk (Kd.R_below (by (with_reducible repeat (first | apply Kd.R_alloc | apply Kd.R_drewN | apply Kd.R_drew)); exact HO159.out) hb)
                              have n5_ := Aside0.mk (Kd.R_lower (Kd.R_new' (Kd.R_new' ho0 (Kd.R_lt (by (with_reducible repeat (first | apply Kd.R_alloc | apply Kd.R_drewN | apply Kd.R_drew)); exact HO_7.out))) (Kd.R_lt (by (with_reducible repeat (first | apply Kd.R_alloc | apply Kd.R_drewN | apply Kd.R_drew)); exact HO_8.out))) (below_size (by repeat (first | (with_reducible first | exact HB.out | apply below_alloc | apply pw_below_drewN | apply below_drew1) | exact HB.out))))
                              have n6_ := Aside0.mk (below_step (by repeat (first | (with_reducible first | exact HB.out | apply below_alloc | apply pw_below_drewN | apply below_drew1) | exact HB.out)) hb)
                              clear HO_7
                              clear HO_8
                              clear HO_11
                              clear HO155
                              clear HO159
                              clear HB
                              have HO_7 := n0_
                              have HO_8 := n1_
                              have HO_11 := n2_
                              have HO155 := n3_
                              have HO159 := n4_
                              have HO163 := n5_
                              have HB := n6_
                              clear n0_ n1_ n2_ n3_ n4_ n5_ n6_
                              (try clear hb)
                              (try clear hb2)
                              (try clear hk)
                              (try clear hi)
                              (try clear ho0)
                              obtain ⟨Ao62, co62, eo62⟩ := Kd.R_slice HO163.out
                              (first | subst eo62 | (injection eo62 with f1_ f2_ f3_; have f4_ := f1_.symm; have f5_ := f3_.symm; clear f1_ f2_ f3_; subst f4_; subst f5_))
                              refine hK.out _ _ ⟨HS0_, HS1_, HS2_, HS3_⟩ (fun hHeld => ?_)
                              clear hK K
                              refine norm_ (a' := ?_) ?_ ?_
                              rotate_left
                              · show Act.put _ (some 88) _ = _
                                simp only [Act.put, List.setIfInBounds_toArray, List.set_cons_zero, List.set_cons_succ, i64_w, i32_w]
                                rfl
                              refine one_ (i := 22) (N := some 93) #[true, true, true, true, true, true, true, true, true, true, true, true, true, true, true, true, true, true, true, true, true, true, true, false, false, false, false, false, false, false, false, false, false, false, false, false, false, false] rfl rfl (one_of HT_.out (by kernel_rfl)) (by decide) (fun K hK => ?_)
                              refine goes_ Try.func18 (by kernel_rfl) rfl #[.slice Ao62 t161.length co62, .string (rdOf ByteArray.empty t149 x12_2)] (by rfl) rfl rfl (by (try simp only [List.map_toArray, List.map_cons, List.map_nil]); first | done | rfl | (simp only [List.length_drop, List.length_take]; rfl)) ?_
                              with_reducible refine (identity_Members.calls _ _ t161 (rdOf ByteArray.empty t149 x12_2) t165 _ ?side1 ?side2 A48.out).mono ?_
                              (case side1 => repeat (first | exact (Kd.R_reads' HO163.out).2.2 | (with_reducible refine Kd.C_alloc ?_ _) | (with_reducible refine Kd.C_drewN ?_ _) | (with_reducible refine Kd.C_drew ?_)))
                              (case side2 => exact (Kd.R_reads' HO163.out).2.1)
                              rintro e w63 ⟨v166, rfl, ho0, hb⟩
                              have HS0_ := (hb.cell (World.block_lt_of_cell? _ _ (hHeld.1))).trans (hHeld.1)
                              have HS1_ := (hb.cell (World.block_lt_of_cell? _ _ (hHeld.2.1))).trans (hHeld.2.1)
                              have HS2_ := (hb.cell (World.block_lt_of_cell? _ _ (hHeld.2.2.1))).trans (hHeld.2.2.1)
                              have HS3_ := (hb.cell (World.block_lt_of_cell? _ _ (hHeld.2.2.2))).trans (hHeld.2.2.2)
                              refine ⟨_, rfl, ?_⟩
                              have n0_ := Aside0.mk (Kd.R_below (by (with_reducible repeat (first | apply Kd.R_alloc | apply Kd.R_drewN | apply Kd.R_drew)); exact HO_7.out) hb)
                              have n1_ := Aside0.mk (Kd.R_below (by (with_reducible repeat (first | apply Kd.R_alloc | apply Kd.R_drewN | apply Kd.R_drew)); exact HO_8.out) hb)
                              have n2_ := Aside0.mk (Kd.R_elder' (by (with_reducible repeat (first | apply Kd.R_alloc | apply Kd.R_drewN | apply Kd.R_drew)); exact HO_11.out) (Kd.R_base ho0) hb)
                              have n3_ := Aside0.mk (Kd.R_elder' (by (with_reducible repeat (first | apply Kd.R_alloc | apply Kd.R_drewN | apply Kd.R_drew)); exact HO155.out) (Kd.R_base ho0) hb)
                              have n4_ := Aside0.mk (Kd.R_elder' (by (with_reducible repeat (first | apply Kd.R_alloc | apply Kd.R_drewN | apply Kd.R_drew)); exact HO159.out) (Kd.R_base ho0) hb)
                              have n5_ := Aside0.mk (Kd.R_below (by (with_reducible repeat (first | apply Kd.R_alloc | apply Kd.R_drewN | apply Kd.R_drew)); exact HO163.out) hb)
                              have n6_ := Aside0.mk (Kd.R_lower (Kd.R_new' (Kd.R_new' (Kd.R_new' ho0 (Kd.R_lt (by (with_reducible repeat (first | apply Kd.R_alloc | apply Kd.R_drewN | apply Kd.R_drew)); exact HO_11.out))) (Kd.R_lt (by (with_reducible repeat (first | apply Kd.R_alloc | apply Kd.R_drewN | apply Kd.R_drew)); exact HO155.out))) (Kd.R_lt (by (with_reducible repeat (first | apply Kd.R_alloc | apply Kd.R_drewN | apply Kd.R_drew)); exact HO159.out))) (below_size (by repeat (first | (with_reducible first | exact HB.out | apply below_alloc | apply pw_below_drewN | apply below_drew1) | exact HB.out))))
                              have n7_ := Aside0.mk (below_step (by repeat (first | (with_reducible first | exact HB.out | apply below_alloc | apply pw_below_drewN | apply below_drew1) | exact HB.out)) hb)
                              clear HO_7
                              clear HO_8
                              clear HO_11
                              clear HO155
                              clear HO159
                              clear HO163
                              clear HB
                              have HO_7 := n0_
                              have HO_8 := n1_
                              have HO_11 := n2_
                              have HO155 := n3_
                              have HO159 := n4_
                              have HO163 := n5_
                              have HO167 := n6_
                              have HB := n7_
                              clear n0_ n1_ n2_ n3_ n4_ n5_ n6_ n7_
                              (try clear hb)
                              (try clear hb2)
                              (try clear hk)
                              (try clear hi)
                              (try clear ho0)
                              obtain ⟨Ao64, co64, eo64⟩ := Kd.R_slice HO167.out
                              (first | subst eo64 | (injection eo64 with f1_ f2_ f3_; have f4_ := f1_.symm; have f5_ := f3_.symm; clear f1_ f2_ f3_; subst f4_; subst f5_))
                              refine hK.out _ _ ⟨HS0_, HS1_, HS2_, HS3_⟩ (fun hHeld => ?_)
                              clear hK K
                              refine norm_ (a' := ?_) ?_ ?_
                              rotate_left
                              · show Act.put _ (some 93) _ = _
                                simp only [Act.put, List.setIfInBounds_toArray, List.set_cons_zero, List.set_cons_succ, i64_w, i32_w]
                                rfl
                              refine one_ (i := 23) (N := some 94) #[true, true, true, true, true, true, true, true, true, true, true, true, true, true, true, true, true, true, true, true, true, true, true, true, false, false, false, false, false, false, false, false, false, false, false, false, false, false] rfl rfl (one_of HT_.out (by kernel_rfl)) (by decide) (fun K hK => ?_)
                              refine goes_ Try.func19 (by kernel_rfl) rfl #[.slice (some ad171) t153.length co57, .slice Ao64 t165.length co64] (by rfl) rfl rfl (by (try simp only [List.map_toArray, List.map_cons, List.map_nil]); first | done | rfl | (simp only [List.length_drop, List.length_take]; rfl)) ?_
                              with_reducible refine (flagstoneref1_Same.calls k2 _ _ t153 _ _ t165 true _ ?side1 ?side2 ?side3 ?side4 A49.out).mono ?_
                              (case side1 => repeat (first | exact (Kd.R_reads' HO155.out).2.2 | (with_reducible refine Kd.C_alloc ?_ _) | (with_reducible refine Kd.C_drewN ?_ _) | (with_reducible refine Kd.C_drew ?_)))
                              (case side2 => exact (Kd.R_reads' HO155.out).2.1)
                              (case side3 => repeat (first | exact (Kd.R_reads' HO167.out).2.2 | (with_reducible refine Kd.C_alloc ?_ _) | (with_reducible refine Kd.C_drewN ?_ _) | (with_reducible refine Kd.C_drew ?_)))
                              (case side4 => exact (Kd.R_reads' HO167.out).2.1)
                              rintro e w' ⟨rfl, ⟨nd, rfl⟩⟩
                              refine ⟨_, rfl, ?_⟩
                              refine hK.out _ _ ⟨hHeld.1, hHeld.2.1, hHeld.2.2.1, hHeld.2.2.2⟩ (fun hHeld => ?_)
                              clear hK K
                              refine norm_ (a' := ?_) ?_ ?_
                              rotate_left
                              · show Act.put _ (some 94) _ = _
                                simp only [Act.put, List.setIfInBounds_toArray, List.set_cons_zero, List.set_cons_succ, i64_w, i32_w]
                                rfl
                              refine pure_ (i := 24) (N := some 95) (v := ?_) (a' := ?_) #[true, true, true, true, true, true, true, true, true, true, true, true, true, true, true, true, true, true, true, true, true, true, true, true, true, false, false, false, false, false, false, false, false, false, false, false, false, false] rfl rfl (any_of HT_.out (by kernel_rfl)) (fun _ _ _ h => h) (Or.inl ⟨by rfl, ?_⟩) ?_ ?_
                              rotate_left
                              · intro w'
                                go_simp
                                with_reducible rfl
                              rotate_left
                              · simp only [Act.put, List.setIfInBounds_toArray, List.set_cons_zero, List.set_cons_succ, i64_w, i32_w]
                                rfl
                              refine pure_ (i := 25) (N := some 96) (v := ?_) (a' := ?_) #[true, true, true, true, true, true, true, true, true, true, true, true, true, true, true, true, true, true, true, true, true, true, true, true, true, true, false, false, false, false, false, false, false, false, false, false, false, false] rfl rfl (any_of HT_.out (by kernel_rfl)) (fun _ _ _ h => h) (Or.inl ⟨by rfl, ?_⟩) ?_ ?_
                              rotate_left
                              · intro w'
                                go_simp
                                with_reducible rfl
                              rotate_left
                              · simp only [Act.put, List.setIfInBounds_toArray, List.set_cons_zero, List.set_cons_succ, i64_w, i32_w]
                                rfl
                              refine pure_ (i := 26) (N := some 97) (v := ?_) (a' := ?_) #[true, true, true, true, true, true, true, true, true, true, true, true, true, true, true, true, true, true, true, true, true, true, true, true, true, true, true, false, false, false, false, false, false, false, false, false, false, false] rfl rfl (any_of HT_.out (by kernel_rfl)) (fun _ _ _ h => h) (Or.inl ⟨by rfl, ?_⟩) ?_ ?_
                              rotate_left
                              · intro w'
                                go_simp
                                with_reducible rfl
                              rotate_left
                              · simp only [Act.put, List.setIfInBounds_toArray, List.set_cons_zero, List.set_cons_succ, i64_w, i32_w]
                                rfl
                              refine pure_ (i := 27) (N := some 98) (v := ?_) (a' := ?_) #[true, true, true, true, true, true, true, true, true, true, true, true, true, true, true, true, true, true, true, true, true, true, true, true, true, true, true, true, false, false, false, false, false, false, false, false, false, false] rfl rfl (any_of HT_.out (by kernel_rfl)) (fun _ _ _ h => h) (Or.inl ⟨by rfl, ?_⟩) ?_ ?_
                              rotate_left
                              · intro w'
                                go_simp
                                with_reducible rfl
                              rotate_left
                              · simp only [Act.put, List.setIfInBounds_toArray, List.set_cons_zero, List.set_cons_succ, i64_w, i32_w]
                                rfl
                              refine pure_ (i := 28) (N := some 99) (v := ?_) (a' := ?_) #[true, true, true, true, true, true, true, true, true, true, true, true, true, true, true, true, true, true, true, true, true, true, true, true, true, true, true, true, true, false, false, false, false, false, false, false, false, false] rfl rfl (any_of HT_.out (by kernel_rfl)) (fun _ _ _ h => h) (Or.inl ⟨by rfl, ?_⟩) ?_ ?_
                              rotate_left
                              · intro w'
                                go_simp
                                with_reducible rfl
                              rotate_left
                              · simp only [Act.put, List.setIfInBounds_toArray, List.set_cons_zero, List.set_cons_succ, i64_w, i32_w]
                                rfl
                              refine pure_ (i := 29) (N := some 100) (v := ?_) (a' := ?_) #[true, true, true, true, true, true, true, true, true, true, true, true, true, true, true, true, true, true, true, true, true, true, true, true, true, true, true, true, true, true, false, false, false, false, false, false, false, false] rfl rfl (any_of HT_.out (by kernel_rfl)) (fun _ _ _ h => h) (Or.inl ⟨by rfl, ?_⟩) ?_ ?_
                              rotate_left
                              · intro w'
                                go_simp
                                with_reducible rfl
                              rotate_left
                              · simp only [Act.put, List.setIfInBounds_toArray, List.set_cons_zero, List.set_cons_succ, i64_w, i32_w]
                                rfl
                              refine pure_ (i := 30) (N := some 101) (v := ?_) (a' := ?_) #[true, true, true, true, true, true, true, true, true, true, true, true, true, true, true, true, true, true, true, true, true, true, true, true, true, true, true, true, true, true, true, false, false, false, false, false, false, false] rfl rfl (any_of HT_.out (by kernel_rfl)) (fun _ _ _ h => h) (Or.inl ⟨by rfl, ?_⟩) ?_ ?_
                              rotate_left
                              · intro w'
                                go_simp
                                with_reducible rfl
                              rotate_left
                              · simp only [Act.put, List.setIfInBounds_toArray, List.set_cons_zero, List.set_cons_succ, i64_w, i32_w]
                                rfl
                              refine pure_ (i := 33) (N := some 104) (v := ?_) (a' := ?_) #[true, true, true, true, true, true, true, true, true, true, true, true, true, true, true, true, true, true, true, true, true, true, true, true, true, true, true, true, true, true, true, false, false, true, false, false, false, false] rfl rfl (any_of HT_.out (by kernel_rfl)) (fun _ _ _ h => h) (Or.inl ⟨by rfl, ?_⟩) ?_ ?_
                              rotate_left
                              · intro w'
                                go_simp
                                with_reducible rfl
                              rotate_left
                              · simp only [Act.put, List.setIfInBounds_toArray, List.set_cons_zero, List.set_cons_succ, i64_w, i32_w]
                                rfl
                              refine pure_ (i := 34) (N := some 105) (v := ?_) (a' := ?_) #[true, true, true, true, true, true, true, true, true, true, true, true, true, true, true, true, true, true, true, true, true, true, true, true, true, true, true, true, true, true, true, false, false, true, true, false, false, false] rfl rfl (any_of HT_.out (by kernel_rfl)) (fun _ _ _ h => h) (Or.inl ⟨by rfl, ?_⟩) ?_ ?_
                              rotate_left
                              · intro w'
                                go_simp
                                with_reducible rfl
                              rotate_left
                              · simp only [Act.put, List.setIfInBounds_toArray, List.set_cons_zero, List.set_cons_succ, i64_w, i32_w]
                                rfl
                              refine take_ (i := 31) (N := some 102) (v := ?_) (a' := ?_) #[true, true, true, true, true, true, true, true, true, true, true, true, true, true, true, true, true, true, true, true, true, true, true, true, true, true, true, true, true, true, true, true, false, true, true, false, false, false] rfl rfl (take_ofW HT_.out HW_.out (by kernel_rfl)) (fun _ _ _ h => h) (Or.inl ⟨by rfl, ?_⟩) hHeld ?_ ?_
                              rotate_left
                              · rintro w' ⟨s0, s1, s2, s3⟩
                                go_simp
                                with_reducible rfl
                              rotate_left
                              · simp only [Act.put, List.setIfInBounds_toArray, List.set_cons_zero, List.set_cons_succ, i64_w, i32_w]
                                rfl
                              refine take_ (i := 35) (N := some 106) (v := ?_) (a' := ?_) #[true, true, true, true, true, true, true, true, true, true, true, true, true, true, true, true, true, true, true, true, true, true, true, true, true, true, true, true, true, true, true, true, false, true, true, true, false, false] rfl rfl (take_ofW HT_.out HW_.out (by kernel_rfl)) (fun _ _ _ h => h) (Or.inl ⟨by rfl, ?_⟩) hHeld ?_ ?_
                              rotate_left
                              · rintro w' ⟨s0, s1, s2, s3⟩
                                go_simp
                                with_reducible rfl
                              rotate_left
                              · simp only [Act.put, List.setIfInBounds_toArray, List.set_cons_zero, List.set_cons_succ, i64_w, i32_w]
                                rfl
                              refine one_ (i := 32) (N := some 103) #[true, true, true, true, true, true, true, true, true, true, true, true, true, true, true, true, true, true, true, true, true, true, true, true, true, true, true, true, true, true, true, true, true, true, true, true, false, false] rfl rfl (one_of HT_.out (by kernel_rfl)) (by decide) (fun K hK => ?_)
                              refine goes_ Try.func20 (by kernel_rfl) rfl #[.slice Ao58 x8_1.length co58, .string (rdOf ByteArray.empty t149 x12_2)] (by rfl) rfl rfl (by (try simp only [List.map_toArray, List.map_cons, List.map_nil]); first | done | rfl | (simp only [List.length_drop, List.length_take]; rfl)) ?_
                              with_reducible refine (identity_Root.calls _ _ x8_1 (rdOf ByteArray.empty t149 x12_2) t170 _ ?side1 ?side2 A51.out).mono ?_
                              (case side1 => repeat (first | exact (Kd.R_reads' HO_8.out).2.2 | (with_reducible refine Kd.C_alloc ?_ _) | (with_reducible refine Kd.C_drewN ?_ _) | (with_reducible refine Kd.C_drew ?_)))
                              (case side2 => exact (Kd.R_reads' HO_8.out).2.1)
                              rintro e w65 ⟨rfl, hb⟩
                              have HS0_ := (hb.cell (World.block_lt_of_cell? _ _ (hHeld.1))).trans (hHeld.1)
                              have HS1_ := (hb.cell (World.block_lt_of_cell? _ _ (hHeld.2.1))).trans (hHeld.2.1)
                              have HS2_ := (hb.cell (World.block_lt_of_cell? _ _ (hHeld.2.2.1))).trans (hHeld.2.2.1)
                              have HS3_ := (hb.cell (World.block_lt_of_cell? _ _ (hHeld.2.2.2))).trans (hHeld.2.2.2)
                              refine ⟨_, rfl, ?_⟩
                              have n0_ := Aside0.mk (Kd.R_below (by (with_reducible repeat (first | apply Kd.R_alloc | apply Kd.R_drewN | apply Kd.R_drew)); exact HO_7.out) hb)
                              have n1_ := Aside0.mk (Kd.R_below (by (with_reducible repeat (first | apply Kd.R_alloc | apply Kd.R_drewN | apply Kd.R_drew)); exact HO_8.out) hb)
                              have n2_ := Aside0.mk (Kd.R_below (by (with_reducible repeat (first | apply Kd.R_alloc | apply Kd.R_drewN | apply Kd.R_drew)); exact HO_11.out) hb)
                              have n3_ := Aside0.mk (Kd.R_below (by (with_reducible repeat (first | apply Kd.R_alloc | apply Kd.R_drewN | apply Kd.R_drew)); exact HO155.out) hb)
                              have n4_ := Aside0.mk (Kd.R_below (by (with_reducible repeat (first | apply Kd.R_alloc | apply Kd.R_drewN | apply Kd.R_drew)); exact HO159.out) hb)
                              have n5_ := Aside0.mk (Kd.R_below (by (with_reducible repeat (first | apply Kd.R_alloc | apply Kd.R_drewN | apply Kd.R_drew)); exact HO163.out) hb)
                              have n6_ := Aside0.mk (Kd.R_below (by (with_reducible repeat (first | apply Kd.R_alloc | apply Kd.R_drewN | apply Kd.R_drew)); exact HO167.out) hb)
                              have n7_ := Aside0.mk (below_step (by repeat (first | (with_reducible first | exact HB.out | apply below_alloc | apply pw_below_drewN | apply below_drew1) | exact HB.out)) hb)
                              clear HO_7
                              clear HO_8
                              clear HO_11
                              clear HO155
                              clear HO159
                              clear HO163
                              clear HO167
                              clear HB
                              have HO_7 := n0_
                              have HO_8 := n1_
                              have HO_11 := n2_
                              have HO155 := n3_
                              have HO159 := n4_
                              have HO163 := n5_
                              have HO167 := n6_
                              have HB := n7_
                              clear n0_ n1_ n2_ n3_ n4_ n5_ n6_ n7_
                              (try clear hb)
                              (try clear hb2)
                              (try clear hk)
                              (try clear hi)
                              refine hK.out _ _ ⟨HS0_, HS1_, HS2_, HS3_⟩ (fun hHeld => ?_)
                              clear hK K
                              refine norm_ (a' := ?_) ?_ ?_
                              rotate_left
                              · show Act.put _ (some 103) _ = _
                                simp only [Act.put, List.setIfInBounds_toArray, List.set_cons_zero, List.set_cons_succ, i64_w, i32_w]
                                rfl
                              refine pure_ (i := 36) (N := some 107) (v := ?_) (a' := ?_) #[true, true, true, true, true, true, true, true, true, true, true, true, true, true, true, true, true, true, true, true, true, true, true, true, true, true, true, true, true, true, true, true, true, true, true, true, true, false] rfl rfl (any_of HT_.out (by kernel_rfl)) (fun _ _ _ h => h) (Or.inl ⟨by rfl, ?_⟩) ?_ ?_
                              rotate_left
                              · intro w'
                                go_simp
                                with_reducible rfl
                              rotate_left
                              · simp only [Act.put, List.setIfInBounds_toArray, List.set_cons_zero, List.set_cons_succ, i64_w, i32_w]
                                rfl
                              refine pure_ (i := 37) (N := some 108) (v := ?_) (a' := ?_) #[true, true, true, true, true, true, true, true, true, true, true, true, true, true, true, true, true, true, true, true, true, true, true, true, true, true, true, true, true, true, true, true, true, true, true, true, true, true] rfl rfl (any_of HT_.out (by kernel_rfl)) (fun _ _ _ h => h) (Or.inl ⟨by rfl, ?_⟩) ?_ ?_
                              rotate_left
                              · intro w'
                                go_simp
                                with_reducible rfl
                              rotate_left
                              · simp only [Act.put, List.setIfInBounds_toArray, List.set_cons_zero, List.set_cons_succ, i64_w, i32_w]
                                rfl
                              refine done_ (done_of HT_.out (by kernel_rfl)) ?_
                              try go_wp2
                              go_roundg k2
                              case measure => have := HK1.out; have := HK2.out; omega
                              case rel => exact ⟨(wrap64 (x12_2 + 1)), (by first | rfl | (simp; done) | (simp [*]; done)), H', ⟨by have := HK1.out; have := HK2.out; omega⟩, ⟨by (with_reducible repeat (first | apply Kd.R_alloc | apply Kd.R_drewN | apply Kd.R_drew)); exact Kd.R_mono HO_7.out (fun _ hk => hk.1)⟩, ⟨by (with_reducible repeat (first | apply Kd.R_alloc | apply Kd.R_drewN | apply Kd.R_drew)); exact Kd.R_mono HO_8.out (fun _ hk => hk.1)⟩, ⟨by (with_reducible repeat (first | apply Kd.R_alloc | apply Kd.R_drewN | apply Kd.R_drew)); exact Kd.R_mono HO_11.out (fun _ hk => trivial)⟩, ⟨by repeat (first | (with_reducible first | exact HB.out | apply below_alloc | apply pw_below_drewN | apply below_drew1) | exact HB.out)⟩⟩
                            · rw [if_neg c53] at H
                              exact absurd H (by simp)
                          · rw [if_neg c52] at H
                            exact absurd H (by simp)
                        · replace c50 := Bool.eq_false_iff.mpr c50
                          subst c50
                          have H1 : (none) = some r := by rw [if_neg (show ¬ (false = true) by decide)] at H; exact H
                          clear H
                          have H := H1
                          clear H1
                          exact absurd H (by simp)
                      · replace c46 := Bool.eq_false_iff.mpr c46
                        subst c46
                        have H1 : (none) = some r := by rw [if_neg (show ¬ (false = true) by decide)] at H; exact H
                        clear H
                        have H := H1
                        clear H1
                        exact absurd H (by simp)
                  · rw [if_neg c41] at H
                    exact absurd H (by simp)
                · rw [if_neg c40] at H
                  have c40b0 : decide (x12_2 < (t149.length : Int)) = false := decide_eq_false c40
                  clear c40
                  obtain rfl := Option.some.inj H
                  obtain ⟨Ao66, co66, eo66⟩ := Kd.R_slice HO_11.out
                  subst eo66
                  go_wp2
                  go_ret
                  exact ⟨by first | rfl | (simp [errW_none, errW_some] <;> rfl) | (simp [*, errW_none, errW_some] <;> rfl), by repeat (first | (with_reducible first | exact HB.out | apply below_alloc | apply pw_below_drewN | apply below_drew1) | exact HB.out)⟩
  · replace c5 := Bool.eq_false_iff.mpr c5
    subst c5
    have H1 : (none) = some r := by rw [if_neg (show ¬ (false = true) by decide)] at H; exact H
    clear H
    have H := H1
    clear H1
    exact absurd H (by simp)

/-- THE ONE PURE STATEMENT of flagstonelaw26_IdentityOrder: yours. -/
noncomputable def flagstonelaw26_IdentityOrder.Pure : Prop := ∀ (l0 : List Int) (a1 : Int) (a2 : Int), l0.length ≤ maxLen → l0.length * 1 ≤ 140737488351232 → (∀ x ∈ l0, (Lit.int .u8 x).wf = true) → (Lit.int .u8 a1).wf = true → (Lit.int .u8 a2).wf = true → ∃ k, flagstonelaw26_IdentityOrder.f k l0 a1 a2 = some true
theorem flagstonelaw26_IdentityOrder.walk (P : flagstonelaw26_IdentityOrder.Pure) (a0 : Option Addr) (len0 cap0 : Nat) (z0 : List Int) (a1 : Int) (a2 : Int) (w : World) (w0 : (a0 = none ∧ len0 = 0 ∧ cap0 = 0 ∧ z0 = []) ∨ ∃ x, a0 = some x ∧ len0 ≤ cap0 ∧ cap0 ≤ maxLen ∧ z0.length = cap0 ∧ (∀ i, i < z0.length → w.cell? (x.add i) = some (.int .u8 (z0.getD i 0))) ∧ ∀ n ∈ z0, (Lit.int .u8 n).wf = true) (y0 : len0 * 1 ≤ 140737488351232) (w1 : (Lit.int .u8 a1).wf = true) (w2 : (Lit.int .u8 a2).wf = true) :
    Calls Try.prog 6 #[.slice a0 len0 cap0, .int .u8 a1, .int .u8 a2] w fun e w' => e = .returned (.bool true) ∧ Below w.heap.size w w' := by
  obtain ⟨l0, rfl, hr0, hm0, hw0, hc0⟩ := ReadsInt.ofRowC w0
  obtain ⟨k, h⟩ := P l0 a1 a2 hm0 y0 hw0 w1 w2
  refine (flagstonelaw26_IdentityOrder.calls k _ _ l0 a1 a2 true w (Kd.C_of_reads (d := (0 : Int)) (h1 := fun _ => rfl) hr0) hc0 h).mono ?_
  rintro e w' ⟨rfl, hd⟩
  exact ⟨rfl, hd⟩

end Go.Proofs.Ytmhcpaohligjaaa.Q
