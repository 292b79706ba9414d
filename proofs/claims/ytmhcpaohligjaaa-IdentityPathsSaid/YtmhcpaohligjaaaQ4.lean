-- laid by wip/tools/qprint.py, a program of this session, out of the translation: nothing here is trusted: Lean checks it
import Derived.Test.YtmhcpaohligjaaaQ0
import Derived.Test.YtmhcpaohligjaaaQ2
import Derived.Test.YtmhcpaohligjaaaQ3
import Derived.Test.YtmhcpaohligjaaaH2
import Derived.Test.YtmhcpaohligjaaaH5
import Derived.Test.YtmhcpaohligjaaaH6
namespace Go.Proofs.Ytmhcpaohligjaaa.Q
open Go.RowKit Go.Proofs.YtmhcpaohligjaaaW.PrintWords Go.Proofs.YtmhcpaohligjaaaW.PrintLast Go.Proofs.YtmhcpaohligjaaaW.PrintMore
attribute [local go_sem] max2_int min2_int max_two min_two max_three min_three max_four min_four   -- for this text's walks alone
set_option linter.unusedVariables false
set_option linter.unusedSimpArgs false

/-! ### flagstonelaw26_IdentityPaths: function 4 -/
mutual
noncomputable def flagstonelaw26_IdentityPaths.l0 : Nat → ByteArray → ByteArray → List (S28) → List ByteArray → Int → Option (Bool)
  | 0, _, _, _, _, _ => none
  | k + 1, x8, x9, x10, x12, x13 => if x13 < (x10.length : Int) then (if 0 ≤ (wrap64 ((x12.length : Int) - 1)) then (if (wrap64 ((x12.length : Int) - 1)) < (x12.length : Int) then (if 0 ≤ x13 then (if ((rd_T28 x10 x13).f0).toList = (rdOf ByteArray.empty x12 (wrap64 ((x12.length : Int) - 1))).toList then ((flagstoneref1_Has.f k x12 ((rd_T28 x10 x13).f1)).bind fun t191 => (if t191 = true then (none) else (if x12.length < 8796093022208 then (flagstonelaw26_IdentityPaths.l0 k x8 x9 x10 (x12 ++ [(rd_T28 x10 x13).f1]) (wrap64 (x13 + 1))) else (none)))) else (if ((rd_T28 x10 x13).f1).toList = (rdOf ByteArray.empty x12 (wrap64 ((x12.length : Int) - 1))).toList then ((flagstoneref1_Has.f k x12 ((rd_T28 x10 x13).f0)).bind fun t197 => (if t197 = true then (none) else (if x12.length < 8796093022208 then (flagstonelaw26_IdentityPaths.l0 k x8 x9 x10 (x12 ++ [(rd_T28 x10 x13).f0]) (wrap64 (x13 + 1))) else (none)))) else (none))) else (none)) else (none)) else (none)) else (if 0 ≤ (wrap64 ((x12.length : Int) - 1)) then (if (wrap64 ((x12.length : Int) - 1)) < (x12.length : Int) then (if (rdOf ByteArray.empty x12 (wrap64 ((x12.length : Int) - 1))).toList = x9.toList then (flagstonelaw26_IdentityPaths.l1 k x8 x9 x10 0) else (none)) else (none)) else (none))
noncomputable def flagstonelaw26_IdentityPaths.l1 : Nat → ByteArray → ByteArray → List (S28) → Int → Option (Bool)
  | 0, _, _, _, _ => none
  | k + 1, x8, x9, x10, x16 => if x16 < (x10.length : Int) then ((some (([] : List (S28)) : List (S28))).bind fun y202 => (if 0 ≤ x16 then (if x16 ≤ (x10.length : Int) then ((some (x10.take (x16 : Int).toNat : List (S28))).bind fun y205 => (if y202.length + y205.length < 3518437208883 then ((some (y202 ++ y205 : List (S28))).bind fun y209 => (if 0 ≤ (wrap64 (x16 + 1)) then (if (wrap64 (x16 + 1)) ≤ (x10.length : Int) then ((some (x10.drop ((wrap64 (x16 + 1)) : Int).toNat : List (S28))).bind fun y212 => (if y209.length + y212.length < 3518437208883 then ((identity_Same.f (y209 ++ y212) x8 x9).bind fun t219 => (if t219 = true then (none) else (flagstonelaw26_IdentityPaths.l1 k x8 x9 x10 (wrap64 (x16 + 1))))) else (none))) else (none)) else (none))) else (none))) else (none)) else (none))) else (some true)
end
noncomputable def flagstonelaw26_IdentityPaths.f (k : Nat) (l0 : List Int) (a1 : Int) (a2 : Int) : Option (Bool) := (flagstonelaw26_awake.f k).bind fun t172 => (if t172 = true then (if (l0.length : Int) > 60 then (some true) else ((flagstonedata_Links.f l0 true).bind fun t173 => ((flagstonedata_Id.f (wrap64 (a1))).bind fun t176 => ((flagstonedata_Id.f (wrap64 (a2))).bind fun t177 => ((identity_Path.f t173 t176 t177).bind fun bt178 => ((identity_Same.f t173 t176 t177).bind fun t182 => (if (bt178.2 != t182) = true then (none) else (if bt178.2 = true then (flagstonelaw26_IdentityPaths.l0 k t176 t177 bt178.1 (([t176] : List ByteArray)) 0) else (some ((bt178.1.length : Int) == 0)))))))))) else (none))
theorem flagstonelaw26_IdentityPaths.mono_l : ∀ k, (∀ y0 y1 y2 y3 y4, LeO (flagstonelaw26_IdentityPaths.l0 k y0 y1 y2 y3 y4) (flagstonelaw26_IdentityPaths.l0 (k + 1) y0 y1 y2 y3 y4)) ∧ (∀ y0 y1 y2 y3, LeO (flagstonelaw26_IdentityPaths.l1 k y0 y1 y2 y3) (flagstonelaw26_IdentityPaths.l1 (k + 1) y0 y1 y2 y3))
  | 0 => ⟨fun _ _ _ _ _ r h => by simp [flagstonelaw26_IdentityPaths.l0] at h, fun _ _ _ _ r h => by simp [flagstonelaw26_IdentityPaths.l1] at h⟩
  | k + 1 => by
    obtain ⟨ih0, ih1⟩ := flagstonelaw26_IdentityPaths.mono_l k
    refine ⟨?_, ?_⟩
    · intro y0 y1 y2 y3 y4
      unfold flagstonelaw26_IdentityPaths.l0
      repeat' first
      | (with_reducible exact ih0 _ _ _ _ _)
      | (with_reducible exact ih1 _ _ _ _)
      | (with_reducible exact flagstonelaw26_awake.mono _)
      | (with_reducible exact flagstoneref1_Has.mono _ _ _)
      | (with_reducible exact LeO.refl _)
      | (with_reducible exact LeO.none _)
      | (with_reducible refine LeO.ite ?_ ?_)
      | (with_reducible refine LeO.bind ?_ (fun _ => ?_))
      | exact ih0 _ _ _ _ _
      | exact ih1 _ _ _ _
      | exact flagstonelaw26_awake.mono _
      | exact flagstoneref1_Has.mono _ _ _
      | exact LeO.none _
      | refine LeO.ite ?_ ?_
      | refine LeO.bind ?_ (fun _ => ?_)
    · intro y0 y1 y2 y3
      unfold flagstonelaw26_IdentityPaths.l1
      repeat' first
      | (with_reducible exact ih0 _ _ _ _ _)
      | (with_reducible exact ih1 _ _ _ _)
      | (with_reducible exact flagstonelaw26_awake.mono _)
      | (with_reducible exact flagstoneref1_Has.mono _ _ _)
      | (with_reducible exact LeO.refl _)
      | (with_reducible exact LeO.none _)
      | (with_reducible refine LeO.ite ?_ ?_)
      | (with_reducible refine LeO.bind ?_ (fun _ => ?_))
      | exact ih0 _ _ _ _ _
      | exact ih1 _ _ _ _
      | exact flagstonelaw26_awake.mono _
      | exact flagstoneref1_Has.mono _ _ _
      | exact LeO.none _
      | refine LeO.ite ?_ ?_
      | refine LeO.bind ?_ (fun _ => ?_)
theorem flagstonelaw26_IdentityPaths.mono : ∀ a0 a1 a2 k, LeO (flagstonelaw26_IdentityPaths.f k a0 a1 a2) (flagstonelaw26_IdentityPaths.f (k + 1) a0 a1 a2) := by
  intro a0 a1 a2 k
  obtain ⟨ih0, ih1⟩ := flagstonelaw26_IdentityPaths.mono_l k
  unfold flagstonelaw26_IdentityPaths.f
  repeat' first
      | (with_reducible exact ih0 _ _ _ _ _)
      | (with_reducible exact ih1 _ _ _ _)
      | (with_reducible exact flagstonelaw26_awake.mono _)
      | (with_reducible exact flagstoneref1_Has.mono _ _ _)
      | (with_reducible exact LeO.refl _)
      | (with_reducible exact LeO.none _)
      | (with_reducible refine LeO.ite ?_ ?_)
      | (with_reducible refine LeO.bind ?_ (fun _ => ?_))
      | exact ih0 _ _ _ _ _
      | exact ih1 _ _ _ _
      | exact flagstonelaw26_awake.mono _
      | exact flagstoneref1_Has.mono _ _ _
      | exact LeO.none _
      | refine LeO.ite ?_ ?_
      | refine LeO.bind ?_ (fun _ => ?_)
noncomputable def flagstonelaw26_IdentityPaths.T28 : Bool × List (List Nat × List Nat) := (true, [([], []), ([], []), ([], []), ([1, 2], [1, 2]), ([0, 3], [0, 3]), ([], []), ([], []), ([6], [6]), ([5, 7], [5, 7]), ([4, 8, 4], [4, 8]), ([9, 9, 0, 1, 2, 3, 4, 5, 6, 7, 8, 9], [9])])
noncomputable def flagstonelaw26_IdentityPaths.B28 : List Nat := [0, 0, 0, 6, 15, 0, 0, 64, 224, 511, 1023]
theorem flagstonelaw26_IdentityPaths.tab28 : rtab .any (opsOf Try.f4 28) = flagstonelaw26_IdentityPaths.T28 := by kernel_rfl
theorem flagstonelaw26_IdentityPaths.bits28 : waitsOk flagstonelaw26_IdentityPaths.T28.2 flagstonelaw26_IdentityPaths.B28 = true := by kernel_rfl
set_option maxHeartbeats 8000000 in
set_option maxRecDepth 100000 in
theorem flagstonelaw26_IdentityPaths.calls (k : Nat) (A0 : Option Addr) (c0 : Nat) (l0 : List Int) (a1 : Int) (a2 : Int) (r : Bool) (w : World) (hr0 : Kd.C (Kd.int .u8) w A0 l0.length l0) (hc0 : l0.length ≤ c0) (h : flagstonelaw26_IdentityPaths.f k l0 a1 a2 = some r) :
    Calls Try.prog 4 #[.slice A0 l0.length c0, .int .u8 a1, .int .u8 a2] w fun e w' => e = .returned (.bool r) ∧ Below w.heap.size w w' := by
  have HR0 := Aside0.mk hr0
  have HC0 := Aside0.mk hc0
  clear hr0 hc0
  have HB := Aside0.mk (Below.refl w.heap.size w)
  have H : ((flagstonelaw26_awake.f k).bind fun t172 => (if t172 = true then (if (l0.length : Int) > 60 then (some true) else ((flagstonedata_Links.f l0 true).bind fun t173 => ((flagstonedata_Id.f (wrap64 (a1))).bind fun t176 => ((flagstonedata_Id.f (wrap64 (a2))).bind fun t177 => ((identity_Path.f t173 t176 t177).bind fun bt178 => ((identity_Same.f t173 t176 t177).bind fun t182 => (if (bt178.2 != t182) = true then (none) else (if bt178.2 = true then (flagstonelaw26_IdentityPaths.l0 k t176 t177 bt178.1 (([t176] : List ByteArray)) 0) else (some ((bt178.1.length : Int) == 0)))))))))) else (none))) = some r := h
  clear h
  replace H := Option.bind_eq_some_iff.mp H
  obtain ⟨t172, A40, H⟩ := H
  replace H : (if t172 = true then (if (l0.length : Int) > 60 then (some true) else ((flagstonedata_Links.f l0 true).bind fun t173 => ((flagstonedata_Id.f (wrap64 (a1))).bind fun t176 => ((flagstonedata_Id.f (wrap64 (a2))).bind fun t177 => ((identity_Path.f t173 t176 t177).bind fun bt178 => ((identity_Same.f t173 t176 t177).bind fun t182 => (if (bt178.2 != t182) = true then (none) else (if bt178.2 = true then (flagstonelaw26_IdentityPaths.l0 k t176 t177 bt178.1 (([t176] : List ByteArray)) 0) else (some ((bt178.1.length : Int) == 0)))))))))) else (none)) = some r := H
  have A4 := Aside0.mk A40
  clear A40
  by_cases c5 : t172 = true
  · subst c5
    have H1 : (if (l0.length : Int) > 60 then (some true) else ((flagstonedata_Links.f l0 true).bind fun t173 => ((flagstonedata_Id.f (wrap64 (a1))).bind fun t176 => ((flagstonedata_Id.f (wrap64 (a2))).bind fun t177 => ((identity_Path.f t173 t176 t177).bind fun bt178 => ((identity_Same.f t173 t176 t177).bind fun t182 => (if (bt178.2 != t182) = true then (none) else (if bt178.2 = true then (flagstonelaw26_IdentityPaths.l0 k t176 t177 bt178.1 (([t176] : List ByteArray)) 0) else (some ((bt178.1.length : Int) == 0)))))))))) = some r := by rw [if_pos rfl] at H; exact H
    clear H
    have H := H1
    clear H1
    by_cases c6 : (l0.length : Int) > 60
    · rw [if_pos c6] at H
      have c6b0 : decide (60 < (l0.length : Int)) = true := decide_eq_true c6
      have c6b1 : decide (60 < l0.length) = true := decide_eq_true (by omega)
      clear c6
      obtain rfl := Option.some.inj H
      go_enter Try.func4, Try.ntmps4
      go_wp2_with (first | ((with_reducible refine gate_callee (f := 11) rfl ?_); refine goesL_ (some 18) rfl rfl Try.func11 (by kernel_rfl) rfl #[] rfl (by (try simp only [List.map_toArray, List.map_cons, List.map_nil]); first | done | rfl | (simp only [List.length_drop, List.length_take]; rfl)) ?_; (with_reducible refine (flagstonelaw26_awake.calls k  true _ A4.out).mono ?_); rintro e w7 ⟨rfl, hb⟩; refine ⟨_, rfl, ?_⟩; have n0_ := Aside0.mk (below_step (by repeat (first | (with_reducible first | exact HB.out | apply below_alloc | apply pw_below_drewN | apply below_drew1) | exact HB.out)) hb); clear HB; have HB := n0_; clear n0_; (try clear hb); (try clear hb2); (try clear hk); (try clear hi)))
      go_ret
      exact ⟨by first | rfl | (simp [errW_none, errW_some] <;> rfl) | (simp [*, errW_none, errW_some] <;> rfl), by repeat (first | (with_reducible first | exact HB.out | apply below_alloc | apply pw_below_drewN | apply below_drew1) | exact HB.out)⟩
    · rw [if_neg c6] at H
      have c6b0 : decide (60 < (l0.length : Int)) = false := decide_eq_false c6
      have c6b1 : decide (60 < l0.length) = false := decide_eq_false (by omega)
      clear c6
      replace H := Option.bind_eq_some_iff.mp H
      obtain ⟨t173, A80, H⟩ := H
      replace H : ((flagstonedata_Id.f (wrap64 (a1))).bind fun t176 => ((flagstonedata_Id.f (wrap64 (a2))).bind fun t177 => ((identity_Path.f t173 t176 t177).bind fun bt178 => ((identity_Same.f t173 t176 t177).bind fun t182 => (if (bt178.2 != t182) = true then (none) else (if bt178.2 = true then (flagstonelaw26_IdentityPaths.l0 k t176 t177 bt178.1 (([t176] : List ByteArray)) 0) else (some ((bt178.1.length : Int) == 0)))))))) = some r := H
      have A8 := Aside0.mk A80
      clear A80
      replace H := Option.bind_eq_some_iff.mp H
      obtain ⟨t176, A90, H⟩ := H
      replace H : ((flagstonedata_Id.f (wrap64 (a2))).bind fun t177 => ((identity_Path.f t173 t176 t177).bind fun bt178 => ((identity_Same.f t173 t176 t177).bind fun t182 => (if (bt178.2 != t182) = true then (none) else (if bt178.2 = true then (flagstonelaw26_IdentityPaths.l0 k t176 t177 bt178.1 (([t176] : List ByteArray)) 0) else (some ((bt178.1.length : Int) == 0))))))) = some r := H
      have A9 := Aside0.mk A90
      clear A90
      replace H := Option.bind_eq_some_iff.mp H
      obtain ⟨t177, A100, H⟩ := H
      replace H : ((identity_Path.f t173 t176 t177).bind fun bt178 => ((identity_Same.f t173 t176 t177).bind fun t182 => (if (bt178.2 != t182) = true then (none) else (if bt178.2 = true then (flagstonelaw26_IdentityPaths.l0 k t176 t177 bt178.1 (([t176] : List ByteArray)) 0) else (some ((bt178.1.length : Int) == 0)))))) = some r := H
      have A10 := Aside0.mk A100
      clear A100
      replace H := Option.bind_eq_some_iff.mp H
      obtain ⟨⟨t178, t179⟩, A110, H⟩ := H
      replace H : ((identity_Same.f t173 t176 t177).bind fun t182 => (if (t179 != t182) = true then (none) else (if t179 = true then (flagstonelaw26_IdentityPaths.l0 k t176 t177 t178 (([t176] : List ByteArray)) 0) else (some ((t178.length : Int) == 0))))) = some r := H
      have A11 := Aside0.mk A110
      clear A110
      replace H := Option.bind_eq_some_iff.mp H
      obtain ⟨t182, A120, H⟩ := H
      replace H : (if (t179 != t182) = true then (none) else (if t179 = true then (flagstonelaw26_IdentityPaths.l0 k t176 t177 t178 (([t176] : List ByteArray)) 0) else (some ((t178.length : Int) == 0)))) = some r := H
      have A12 := Aside0.mk A120
      clear A120
      by_cases c13 : (t179 != t182) = true
      · rw [if_pos c13] at H
        exact absurd H (by simp)
      · rw [if_neg c13] at H
        have c13b0 : (t179 != t182) = false := by simpa using c13
        (try (have c13b1 : decide (t179 = t182) = true := by simpa using c13))
        (try (have c13b2 : (t179 == t182) = true := by simpa using c13))
        clear c13
        by_cases c14 : t179 = true
        · subst c14
          have H1 : (flagstonelaw26_IdentityPaths.l0 k t176 t177 t178 (([t176] : List ByteArray)) 0) = some r := by rw [if_pos rfl] at H; exact H
          clear H
          have H := H1
          clear H1
          obtain ⟨y183, hy183⟩ : ∃ y_ : List ByteArray, y_ = (([t176] : List ByteArray)) := ⟨_, rfl⟩
          replace H : (flagstonelaw26_IdentityPaths.l0 k t176 t177 t178 y183 0) = some r := by first | (rw [hy183]; with_reducible exact H) | (have H2_ := (Option.bind_some _ _).symm.trans H; rw [hy183]; with_reducible exact H2_) | (have H2_ := (Option.bind_some _ _).symm.trans H; with_reducible exact H2_) | with_reducible exact H | (rw [hy183]; exact H) | exact H
          have Ny183 := Aside0.mk hy183
          clear hy183
          have H' := Aside0.mk H
          clear H
          go_enter Try.func4, Try.ntmps4
          go_wp2_with (first | ((with_reducible refine gate_callee (f := 11) rfl ?_); refine goesL_ (some 18) rfl rfl Try.func11 (by kernel_rfl) rfl #[] rfl (by (try simp only [List.map_toArray, List.map_cons, List.map_nil]); first | done | rfl | (simp only [List.length_drop, List.length_take]; rfl)) ?_; (with_reducible refine (flagstonelaw26_awake.calls k  true _ A4.out).mono ?_); rintro e w15 ⟨rfl, hb⟩; refine ⟨_, rfl, ?_⟩; have n0_ := Aside0.mk (below_step (by repeat (first | (with_reducible first | exact HB.out | apply below_alloc | apply pw_below_drewN | apply below_drew1) | exact HB.out)) hb); clear HB; have HB := n0_; clear n0_; (try clear hb); (try clear hb2); (try clear hk); (try clear hi)) | ((with_reducible refine gate_callee (f := 12) rfl ?_); refine goesL_ (some 24) rfl rfl Try.func12 (by kernel_rfl) rfl #[.slice A0 l0.length c0, .bool true] rfl (by (try simp only [List.map_toArray, List.map_cons, List.map_nil]); first | done | rfl | (simp only [List.length_drop, List.length_take]; rfl)) ?_; (with_reducible refine (flagstonedata_Links.calls _ _ l0 true t173 _ ?side1 ?side2 A8.out).mono ?_); (case side1 => repeat (first | exact (Kd.C_below HR0.out HB.out) | (with_reducible refine Kd.C_alloc ?_ _) | (with_reducible refine Kd.C_drewN ?_ _) | (with_reducible refine Kd.C_drew ?_))); (case side2 => exact HC0.out); rintro e w16 ⟨v174, rfl, ho0, hb⟩; refine ⟨_, rfl, ?_⟩; have n0_ := Aside0.mk (Kd.R_lower ho0 (below_size (by repeat (first | (with_reducible first | exact HB.out | apply below_alloc | apply pw_below_drewN | apply below_drew1) | exact HB.out)))); have n1_ := Aside0.mk (below_step (by repeat (first | (with_reducible first | exact HB.out | apply below_alloc | apply pw_below_drewN | apply below_drew1) | exact HB.out)) hb); clear HB; have HO175 := n0_; have HB := n1_; clear n0_ n1_; (try clear hb); (try clear hb2); (try clear hk); (try clear hi); (try clear ho0)) | ((with_reducible refine gate_callee (f := 13) rfl ?_); refine goesL_ (some 27) rfl rfl Try.func13 (by kernel_rfl) rfl #[.int .i64 (wrap64 (a1))] rfl (by (try simp only [List.map_toArray, List.map_cons, List.map_nil]); first | done | rfl | (simp only [List.length_drop, List.length_take]; rfl)) ?_; (with_reducible refine (flagstonedata_Id.calls (wrap64 (a1)) t176 _ A9.out).mono ?_); rintro e w17 ⟨rfl, hb⟩; refine ⟨_, rfl, ?_⟩; have n0_ := Aside0.mk (Kd.R_below (by (with_reducible repeat (first | apply Kd.R_alloc | apply Kd.R_drewN | apply Kd.R_drew)); exact HO175.out) hb); have n1_ := Aside0.mk (below_step (by repeat (first | (with_reducible first | exact HB.out | apply below_alloc | apply pw_below_drewN | apply below_drew1) | exact HB.out)) hb); clear HO175; clear HB; have HO175 := n0_; have HB := n1_; clear n0_ n1_; (try clear hb); (try clear hb2); (try clear hk); (try clear hi)) | ((with_reducible refine gate_callee (f := 13) rfl ?_); refine goesL_ (some 30) rfl rfl Try.func13 (by kernel_rfl) rfl #[.int .i64 (wrap64 (a2))] rfl (by (try simp only [List.map_toArray, List.map_cons, List.map_nil]); first | done | rfl | (simp only [List.length_drop, List.length_take]; rfl)) ?_; (with_reducible refine (flagstonedata_Id.calls (wrap64 (a2)) t177 _ A10.out).mono ?_); rintro e w18 ⟨rfl, hb⟩; refine ⟨_, rfl, ?_⟩; have n0_ := Aside0.mk (Kd.R_below (by (with_reducible repeat (first | apply Kd.R_alloc | apply Kd.R_drewN | apply Kd.R_drew)); exact HO175.out) hb); have n1_ := Aside0.mk (below_step (by repeat (first | (with_reducible first | exact HB.out | apply below_alloc | apply pw_below_drewN | apply below_drew1) | exact HB.out)) hb); clear HO175; clear HB; have HO175 := n0_; have HB := n1_; clear n0_ n1_; (try clear hb); (try clear hb2); (try clear hk); (try clear hi); obtain ⟨Ao19, co19, eo19⟩ := Kd.R_slice HO175.out; subst eo19) | ((with_reducible refine gate_callee (f := 16) rfl ?_); refine goesL_ (some 35) rfl rfl Try.func16 (by kernel_rfl) rfl #[.slice Ao19 t173.length co19, .string t176, .string t177] rfl (by (try simp only [List.map_toArray, List.map_cons, List.map_nil]); first | done | rfl | (simp only [List.length_drop, List.length_take]; rfl)) ?_; (with_reducible refine (identity_Path.calls _ _ t173 t176 t177 t178 true _ ?side1 ?side2 A11.out).mono ?_); (case side1 => repeat (first | exact (Kd.R_reads' HO175.out).2.2 | (with_reducible refine Kd.C_alloc ?_ _) | (with_reducible refine Kd.C_drewN ?_ _) | (with_reducible refine Kd.C_drew ?_))); (case side2 => exact (Kd.R_reads' HO175.out).2.1); rintro e w20 ⟨v180, rfl, ho0, hb⟩; refine ⟨_, rfl, ?_⟩; have n0_ := Aside0.mk (Kd.R_elder' (by (with_reducible repeat (first | apply Kd.R_alloc | apply Kd.R_drewN | apply Kd.R_drew)); exact HO175.out) (Kd.R_base ho0) hb); have n1_ := Aside0.mk (Kd.R_lower (Kd.R_new' ho0 (Kd.R_lt (by (with_reducible repeat (first | apply Kd.R_alloc | apply Kd.R_drewN | apply Kd.R_drew)); exact HO175.out))) (below_size (by repeat (first | (with_reducible first | exact HB.out | apply below_alloc | apply pw_below_drewN | apply below_drew1) | exact HB.out)))); have n2_ := Aside0.mk (below_step (by repeat (first | (with_reducible first | exact HB.out | apply below_alloc | apply pw_below_drewN | apply below_drew1) | exact HB.out)) hb); clear HO175; clear HB; have HO175 := n0_; have HO181 := n1_; have HB := n2_; clear n0_ n1_ n2_; (try clear hb); (try clear hb2); (try clear hk); (try clear hi); (try clear ho0)) | ((with_reducible refine gate_callee (f := 15) rfl ?_); refine goesL_ (some 42) rfl rfl Try.func15 (by kernel_rfl) rfl #[.slice Ao19 t173.length co19, .string t176, .string t177] rfl (by (try simp only [List.map_toArray, List.map_cons, List.map_nil]); first | done | rfl | (simp only [List.length_drop, List.length_take]; rfl)) ?_; (with_reducible refine (identity_Same.calls _ _ t173 t176 t177 t182 _ ?side1 ?side2 A12.out).mono ?_); (case side1 => repeat (first | exact (Kd.R_reads' HO175.out).2.2 | (with_reducible refine Kd.C_alloc ?_ _) | (with_reducible refine Kd.C_drewN ?_ _) | (with_reducible refine Kd.C_drew ?_))); (case side2 => exact (Kd.R_reads' HO175.out).2.1); rintro e w21 ⟨rfl, hb⟩; refine ⟨_, rfl, ?_⟩; have n0_ := Aside0.mk (Kd.R_below (by (with_reducible repeat (first | apply Kd.R_alloc | apply Kd.R_drewN | apply Kd.R_drew)); exact HO175.out) hb); have n1_ := Aside0.mk (Kd.R_below (by (with_reducible repeat (first | apply Kd.R_alloc | apply Kd.R_drewN | apply Kd.R_drew)); exact HO181.out) hb); have n2_ := Aside0.mk (below_step (by repeat (first | (with_reducible first | exact HB.out | apply below_alloc | apply pw_below_drewN | apply below_drew1) | exact HB.out)) hb); clear HO175; clear HO181; clear HB; have HO175 := n0_; have HO181 := n1_; have HB := n2_; clear n0_ n1_ n2_; (try clear hb); (try clear hb2); (try clear hk); (try clear hi)) | ((with_reducible refine gate_dst (N := 50) rfl ?_); refine Kd.R_lit Kd.string _ 9 ?hg (N := 50) ?hd (xs := ([t176] : List ByteArray)) (inner := [.string t176]) (ok := fun _ => True) (okp := fun _ => True) ?hr ?hp (fun _ hk => hk) trivial (Below.refl _ _) (Nat.le_refl _) (by simp) ?_; (case hd => rfl); (case hg => rfl); (case hr => first | (go_simp; done) | (go_simp; rfl)); (case hp => exact (Reps.one (show Kd.M Kd.string _ _ _ t176 [.string t176] from rfl) (Reps.none _ _))); intro v184 w22 ho23 hb hg_ hnew_; clear hg_ hnew_; (first | rw [← Ny183.out] at ho23 | (simp only [Int.reduceToNat] at ho23; rw [← Ny183.out] at ho23)); have n0_ := Aside0.mk (Kd.R_below (by (with_reducible repeat (first | apply Kd.R_alloc | apply Kd.R_drewN | apply Kd.R_drew)); exact HO175.out) hb); have n1_ := Aside0.mk (Kd.R_below (by (with_reducible repeat (first | apply Kd.R_alloc | apply Kd.R_drewN | apply Kd.R_drew)); exact HO181.out) hb); have n2_ := Aside0.mk (Kd.R_lower ho23 (below_size (by repeat (first | (with_reducible first | exact HB.out | apply below_alloc | apply pw_below_drewN | apply below_drew1) | exact HB.out)))); have n3_ := Aside0.mk (below_step (by repeat (first | (with_reducible first | exact HB.out | apply below_alloc | apply pw_below_drewN | apply below_drew1) | exact HB.out)) hb); clear HO175; clear HO181; clear HB; have HO175 := n0_; have HO181 := n1_; have HO185 := n2_; have HB := n3_; clear n0_ n1_ n2_ n3_; clear hb ho23))
          go_loopg [12, 13] k (fun kq v12 v13 w' => ∃ (x12_1 : List ByteArray) (x13_1 : Int), v13 = .int .i64 x13_1 ∧ Aside0 (flagstonelaw26_IdentityPaths.l0 kq t176 t177 t178 x12_1 x13_1 = some r) ∧ Aside0 (kq ≤ k) ∧ Aside0 (Kd.R k28 28 w' w.heap.size (fun _ => True) v180 t178) ∧ Aside0 (Kd.R Kd.string 9 w' w.heap.size (fun _ => True) v12 x12_1) ∧ Aside0 (Below w.heap.size w w'))
          case atStart => exact ⟨(y183), (0), (by first | rfl | (simp; done) | (simp [*]; done)), H', ⟨Nat.le_refl _⟩, ⟨by (with_reducible repeat (first | apply Kd.R_alloc | apply Kd.R_drewN | apply Kd.R_drew)); exact Kd.R_mono HO181.out (fun _ hk => trivial)⟩, ⟨by (with_reducible repeat (first | apply Kd.R_alloc | apply Kd.R_drewN | apply Kd.R_drew)); exact HO185.out⟩, ⟨by repeat (first | (with_reducible first | exact HB.out | apply below_alloc | apply pw_below_drewN | apply below_drew1) | exact HB.out)⟩⟩
          case round =>
            clear H'
            try clear c1
            try clear p2
            try clear c4
            try clear c5
            try clear c6
            try clear c6b0
            try clear c6b1
            try clear p6
            try clear c11
            try clear c12
            try clear c13
            try clear c13b0
            try clear c13b1
            try clear c13b2
            try clear c14
            try clear c15
            try clear c16
            obtain ⟨x12_1, x13_1, rfl, HA, HK1, HO_10, HO_12, HB⟩ := hrel
            cases gk with
            | zero => exact absurd HA.out (by simp [flagstonelaw26_IdentityPaths.l0])
            | succ k1 =>
              have H := HA.out
              clear HA
              simp only [flagstonelaw26_IdentityPaths.l0] at H
              by_cases c24 : x13_1 < (t178.length : Int)
              · rw [if_pos c24] at H
                have c24b0 : decide (x13_1 < (t178.length : Int)) = true := decide_eq_true c24
                clear c24
                obtain ⟨ji25, hji25⟩ : ∃ j_ : Int, (wrap64 ((x12_1.length : Int) - 1)) = j_ := ⟨_, rfl⟩
                replace H : (if 0 ≤ (ji25) then (if (ji25) < (x12_1.length : Int) then (if 0 ≤ x13_1 then (if ((rd_T28 t178 x13_1).f0).toList = (rdOf ByteArray.empty x12_1 (ji25)).toList then ((flagstoneref1_Has.f k1 x12_1 ((rd_T28 t178 x13_1).f1)).bind fun t191 => (if t191 = true then (none) else (if x12_1.length < 8796093022208 then (flagstonelaw26_IdentityPaths.l0 k1 t176 t177 t178 (x12_1 ++ [(rd_T28 t178 x13_1).f1]) (wrap64 (x13_1 + 1))) else (none)))) else (if ((rd_T28 t178 x13_1).f1).toList = (rdOf ByteArray.empty x12_1 (ji25)).toList then ((flagstoneref1_Has.f k1 x12_1 ((rd_T28 t178 x13_1).f0)).bind fun t197 => (if t197 = true then (none) else (if x12_1.length < 8796093022208 then (flagstonelaw26_IdentityPaths.l0 k1 t176 t177 t178 (x12_1 ++ [(rd_T28 t178 x13_1).f0]) (wrap64 (x13_1 + 1))) else (none)))) else (none))) else (none)) else (none)) else (none)) = some r := by first | (rw [hji25] at H; exact H) | (simp only [hji25] at H ⊢; exact H)
                have hji25w : (IntKind.i64.wrap ((x12_1.length : Int) - 1)) = ji25 := (i64_w _).trans hji25
                by_cases c26 : 0 ≤ (ji25)
                · rw [if_pos c26] at H
                  have c26b0 : decide (0 ≤ (ji25)) = true := decide_eq_true c26
                  clear c26
                  by_cases c27 : (ji25) < (x12_1.length : Int)
                  · rw [if_pos c27] at H
                    have c27b0 : decide ((ji25) < (x12_1.length : Int)) = true := decide_eq_true c27
                    clear c27
                    by_cases c28 : 0 ≤ x13_1
                    · rw [if_pos c28] at H
                      have c28b0 : decide (0 ≤ x13_1) = true := decide_eq_true c28
                      clear c28
                      by_cases c29 : ((rd_T28 t178 x13_1).f0).toList = (rdOf ByteArray.empty x12_1 (ji25)).toList
                      · rw [if_pos c29] at H
                        have c29b0 : (((rd_T28 t178 x13_1).f0).toList == (rdOf ByteArray.empty x12_1 (ji25)).toList) = true := beq_iff_eq.mpr c29
                        have c29b1 : (((rd_T28 t178 x13_1).f0).toList != (rdOf ByteArray.empty x12_1 (ji25)).toList) = false := bne_eq_false_iff_eq.mpr c29
                        clear c29
                        replace H := Option.bind_eq_some_iff.mp H
                        obtain ⟨t191, A300, H⟩ := H
                        replace H : (if t191 = true then (none) else (if x12_1.length < 8796093022208 then (flagstonelaw26_IdentityPaths.l0 k1 t176 t177 t178 (x12_1 ++ [(rd_T28 t178 x13_1).f1]) (wrap64 (x13_1 + 1))) else (none))) = some r := H
                        have A30 := Aside0.mk A300
                        clear A300
                        by_cases c31 : t191 = true
                        · subst c31
                          have H1 : (none) = some r := by rw [if_pos rfl] at H; exact H
                          clear H
                          have H := H1
                          clear H1
                          exact absurd H (by simp)
                        · replace c31 := Bool.eq_false_iff.mpr c31
                          subst c31
                          have H1 : (if x12_1.length < 8796093022208 then (flagstonelaw26_IdentityPaths.l0 k1 t176 t177 t178 (x12_1 ++ [(rd_T28 t178 x13_1).f1]) (wrap64 (x13_1 + 1))) else (none)) = some r := by rw [if_neg (show ¬ (false = true) by decide)] at H; exact H
                          clear H
                          have H := H1
                          clear H1
                          by_cases c32 : x12_1.length < 8796093022208
                          · rw [if_pos c32] at H
                            have LMc32 := Aside0.mk c32
                            clear c32
                            obtain ⟨y192, hy192⟩ : ∃ y_ : List ByteArray, y_ = (x12_1 ++ [(rd_T28 t178 x13_1).f1]) := ⟨_, rfl⟩
                            replace H : (flagstonelaw26_IdentityPaths.l0 k1 t176 t177 t178 y192 (wrap64 (x13_1 + 1))) = some r := by first | (rw [hy192]; with_reducible exact H) | (have H2_ := (Option.bind_some _ _).symm.trans H; rw [hy192]; with_reducible exact H2_) | (have H2_ := (Option.bind_some _ _).symm.trans H; with_reducible exact H2_) | with_reducible exact H | (rw [hy192]; exact H) | exact H
                            have Ny192 := Aside0.mk hy192
                            clear hy192
                            have H' := Aside0.mk H
                            clear H
                            obtain ⟨Ao33, co33, eo33⟩ := Kd.R_slice HO_10.out
                            subst eo33
                            obtain ⟨Ao34, co34, eo34⟩ := Kd.R_slice HO_12.out
                            subst eo34
                            have p186 : 0 ≤ ((ji25) : Int) := of_decide_eq_true (by first | (with_reducible assumption) | assumption)
                            have q186 : (ji25) < (x12_1.length : Int) := of_decide_eq_true (by first | (with_reducible assumption) | assumption)
                            obtain ⟨ad186, e186, hx186_0⟩ := Kd.at_string (Kd.R_reads' HO_12.out).2.2 (ji25) p186 q186
                            cases e186
                            replace p186 := eq_true p186
                            replace q186 := eq_true q186
                            have p187 : 0 ≤ (x13_1 : Int) := of_decide_eq_true (by first | (with_reducible assumption) | assumption)
                            have q187 : x13_1 < (t178.length : Int) := of_decide_eq_true (by first | (with_reducible assumption) | assumption)
                            obtain ⟨ad187, e187, hx187_0, hx187_1, hx187_2⟩ := at_T28 (Kd.R_reads' HO_10.out).2.2 x13_1 p187 q187
                            cases e187
                            replace p187 := eq_true p187
                            replace q187 := eq_true q187
                            have p188 : 0 ≤ (x13_1 : Int) := of_decide_eq_true (by first | (with_reducible assumption) | assumption)
                            have q188 : x13_1 < (t178.length : Int) := of_decide_eq_true (by first | (with_reducible assumption) | assumption)
                            obtain ⟨ad188, e188, hx188_0, hx188_1, hx188_2⟩ := at_T28 (Kd.R_reads' HO_10.out).2.2 x13_1 p188 q188
                            obtain rfl : ad187 = ad188 := (by injection e188)
                            replace p188 := eq_true p188
                            replace q188 := eq_true q188
                            have p189 : 0 ≤ (x13_1 : Int) := of_decide_eq_true (by first | (with_reducible assumption) | assumption)
                            have q189 : x13_1 < (t178.length : Int) := of_decide_eq_true (by first | (with_reducible assumption) | assumption)
                            obtain ⟨ad189, e189, hx189_0, hx189_1, hx189_2⟩ := at_T28 (Kd.R_reads' HO_10.out).2.2 x13_1 p189 q189
                            obtain rfl : ad187 = ad189 := (by injection e189)
                            replace p189 := eq_true p189
                            replace q189 := eq_true q189
                            have p190 : 0 ≤ (x13_1 : Int) := of_decide_eq_true (by first | (with_reducible assumption) | assumption)
                            have q190 : x13_1 < (t178.length : Int) := of_decide_eq_true (by first | (with_reducible assumption) | assumption)
                            obtain ⟨ad190, e190, hx190_0, hx190_1, hx190_2⟩ := at_T28 (Kd.R_reads' HO_10.out).2.2 x13_1 p190 q190
                            obtain rfl : ad187 = ad190 := (by injection e190)
                            replace p190 := eq_true p190
                            replace q190 := eq_true q190
                            go_wp2_with (first | (go_at_call 17; (with_reducible refine (flagstoneref1_Has.calls k1 _ _ x12_1 ((rd_T28 t178 x13_1).f1) false _ ?side1 ?side2 A30.out).mono ?_); (case side1 => repeat (first | exact (Kd.R_reads' HO_12.out).2.2 | (with_reducible refine Kd.C_alloc ?_ _) | (with_reducible refine Kd.C_drewN ?_ _) | (with_reducible refine Kd.C_drew ?_))); (case side2 => exact (Kd.R_reads' HO_12.out).2.1); rintro e w' ⟨rfl, ⟨nd, rfl⟩⟩) | ((with_reducible refine gate_builtin (b := .append) (xs := #[.tmp 101, .tmp 103]) rfl ?_); at_builtin; refine Kd.R_append Kd.string (w0 := w) w.heap.size rfl (.tmp 101) (.tmp 103) 29 9 (.string ⟨#[]⟩) 16 rfl Try.underlying29 info9 rfl (by decide) (by omega) (.slice (some ad186) x12_1.length co34) x12_1 ((rd_T28 t178 x13_1).f1) [.string ((rd_T28 t178 x13_1).f1)] (fun _ => True) (fun _ => False) rfl rfl ?aP (fun _ hk => hk.elim) ?aF ?aO ?aB ?aS ?aL ?_; (case aP => exact rfl); (case aB => exact (by repeat (first | (with_reducible first | exact HB.out | apply below_alloc | apply pw_below_drewN | apply below_drew1) | exact HB.out))); (case aF => exact (fun _ _ => trivial)); (case aO => exact (by (with_reducible repeat (first | apply Kd.R_alloc | apply Kd.R_drewN | apply Kd.R_drew)); exact HO_12.out)); (case aS => exact (below_size (by repeat (first | (with_reducible first | exact HB.out | apply below_alloc | apply pw_below_drewN | apply below_drew1) | exact HB.out)))); (case aL => have := LMc32.out; omega); intro v193 w35 ho hb hg hat; rw [← Ny192.out] at ho; have n0_ := Aside0.mk (Kd.R_over' (by (with_reducible repeat (first | apply Kd.R_alloc | apply Kd.R_drewN | apply Kd.R_drew)); exact HO_10.out) (Kd.R_typed (by (with_reducible repeat (first | apply Kd.R_alloc | apply Kd.R_drewN | apply Kd.R_drew)); exact HO_12.out)) (by decide) hg); have n1_ := Aside0.mk (hb); have n2_ := Aside0.mk (ho); clear HO_10; clear HB; clear HO_12; have HO_10 := n0_; have HB := n1_; have HO194 := n2_; clear n0_ n1_ n2_; clear ho hb hg hat))
                            go_roundg k1
                            case measure => have := HK1.out; omega
                            case rel => exact ⟨(y192), (wrap64 (x13_1 + 1)), (by first | rfl | (simp; done) | (simp [*]; done)), H', ⟨by have := HK1.out; omega⟩, ⟨by (with_reducible repeat (first | apply Kd.R_alloc | apply Kd.R_drewN | apply Kd.R_drew)); exact HO_10.out⟩, ⟨by (with_reducible repeat (first | apply Kd.R_alloc | apply Kd.R_drewN | apply Kd.R_drew)); exact HO194.out⟩, ⟨by repeat (first | (with_reducible first | exact HB.out | apply below_alloc | apply pw_below_drewN | apply below_drew1) | exact HB.out)⟩⟩
                          · rw [if_neg c32] at H
                            exact absurd H (by simp)
                      · rw [if_neg c29] at H
                        have c29b0 : (((rd_T28 t178 x13_1).f0).toList == (rdOf ByteArray.empty x12_1 (ji25)).toList) = false := beq_eq_false_iff_ne.mpr c29
                        have c29b1 : (((rd_T28 t178 x13_1).f0).toList != (rdOf ByteArray.empty x12_1 (ji25)).toList) = true := bne_iff_ne.mpr c29
                        by_cases c36 : ((rd_T28 t178 x13_1).f1).toList = (rdOf ByteArray.empty x12_1 (ji25)).toList
                        · rw [if_pos c36] at H
                          have c36b0 : (((rd_T28 t178 x13_1).f1).toList == (rdOf ByteArray.empty x12_1 (ji25)).toList) = true := beq_iff_eq.mpr c36
                          have c36b1 : (((rd_T28 t178 x13_1).f1).toList != (rdOf ByteArray.empty x12_1 (ji25)).toList) = false := bne_eq_false_iff_eq.mpr c36
                          clear c36
                          replace H := Option.bind_eq_some_iff.mp H
                          obtain ⟨t197, A370, H⟩ := H
                          replace H : (if t197 = true then (none) else (if x12_1.length < 8796093022208 then (flagstonelaw26_IdentityPaths.l0 k1 t176 t177 t178 (x12_1 ++ [(rd_T28 t178 x13_1).f0]) (wrap64 (x13_1 + 1))) else (none))) = some r := H
                          have A37 := Aside0.mk A370
                          clear A370
                          by_cases c38 : t197 = true
                          · subst c38
                            have H1 : (none) = some r := by rw [if_pos rfl] at H; exact H
                            clear H
                            have H := H1
                            clear H1
                            exact absurd H (by simp)
                          · replace c38 := Bool.eq_false_iff.mpr c38
                            subst c38
                            have H1 : (if x12_1.length < 8796093022208 then (flagstonelaw26_IdentityPaths.l0 k1 t176 t177 t178 (x12_1 ++ [(rd_T28 t178 x13_1).f0]) (wrap64 (x13_1 + 1))) else (none)) = some r := by rw [if_neg (show ¬ (false = true) by decide)] at H; exact H
                            clear H
                            have H := H1
                            clear H1
                            by_cases c39 : x12_1.length < 8796093022208
                            · rw [if_pos c39] at H
                              have LMc39 := Aside0.mk c39
                              clear c39
                              obtain ⟨y198, hy198⟩ : ∃ y_ : List ByteArray, y_ = (x12_1 ++ [(rd_T28 t178 x13_1).f0]) := ⟨_, rfl⟩
                              replace H : (flagstonelaw26_IdentityPaths.l0 k1 t176 t177 t178 y198 (wrap64 (x13_1 + 1))) = some r := by first | (rw [hy198]; with_reducible exact H) | (have H2_ := (Option.bind_some _ _).symm.trans H; rw [hy198]; with_reducible exact H2_) | (have H2_ := (Option.bind_some _ _).symm.trans H; with_reducible exact H2_) | with_reducible exact H | (rw [hy198]; exact H) | exact H
                              have Ny198 := Aside0.mk hy198
                              clear hy198
                              have H' := Aside0.mk H
                              clear H
                              obtain ⟨Ao40, co40, eo40⟩ := Kd.R_slice HO_10.out
                              subst eo40
                              obtain ⟨Ao41, co41, eo41⟩ := Kd.R_slice HO_12.out
                              subst eo41
                              have p186 : 0 ≤ ((ji25) : Int) := of_decide_eq_true (by first | (with_reducible assumption) | assumption)
                              have q186 : (ji25) < (x12_1.length : Int) := of_decide_eq_true (by first | (with_reducible assumption) | assumption)
                              obtain ⟨ad186, e186, hx186_0⟩ := Kd.at_string (Kd.R_reads' HO_12.out).2.2 (ji25) p186 q186
                              cases e186
                              replace p186 := eq_true p186
                              replace q186 := eq_true q186
                              have p187 : 0 ≤ (x13_1 : Int) := of_decide_eq_true (by first | (with_reducible assumption) | assumption)
                              have q187 : x13_1 < (t178.length : Int) := of_decide_eq_true (by first | (with_reducible assumption) | assumption)
                              obtain ⟨ad187, e187, hx187_0, hx187_1, hx187_2⟩ := at_T28 (Kd.R_reads' HO_10.out).2.2 x13_1 p187 q187
                              cases e187
                              replace p187 := eq_true p187
                              replace q187 := eq_true q187
                              have p188 : 0 ≤ (x13_1 : Int) := of_decide_eq_true (by first | (with_reducible assumption) | assumption)
                              have q188 : x13_1 < (t178.length : Int) := of_decide_eq_true (by first | (with_reducible assumption) | assumption)
                              obtain ⟨ad188, e188, hx188_0, hx188_1, hx188_2⟩ := at_T28 (Kd.R_reads' HO_10.out).2.2 x13_1 p188 q188
                              obtain rfl : ad187 = ad188 := (by injection e188)
                              replace p188 := eq_true p188
                              replace q188 := eq_true q188
                              have p195 : 0 ≤ (x13_1 : Int) := of_decide_eq_true (by first | (with_reducible assumption) | assumption)
                              have q195 : x13_1 < (t178.length : Int) := of_decide_eq_true (by first | (with_reducible assumption) | assumption)
                              obtain ⟨ad195, e195, hx195_0, hx195_1, hx195_2⟩ := at_T28 (Kd.R_reads' HO_10.out).2.2 x13_1 p195 q195
                              obtain rfl : ad187 = ad195 := (by injection e195)
                              replace p195 := eq_true p195
                              replace q195 := eq_true q195
                              have p196 : 0 ≤ (x13_1 : Int) := of_decide_eq_true (by first | (with_reducible assumption) | assumption)
                              have q196 : x13_1 < (t178.length : Int) := of_decide_eq_true (by first | (with_reducible assumption) | assumption)
                              obtain ⟨ad196, e196, hx196_0, hx196_1, hx196_2⟩ := at_T28 (Kd.R_reads' HO_10.out).2.2 x13_1 p196 q196
                              obtain rfl : ad187 = ad196 := (by injection e196)
                              replace p196 := eq_true p196
                              replace q196 := eq_true q196
                              go_wp2_with (first | (go_at_call 17; (with_reducible refine (flagstoneref1_Has.calls k1 _ _ x12_1 ((rd_T28 t178 x13_1).f0) false _ ?side1 ?side2 A37.out).mono ?_); (case side1 => repeat (first | exact (Kd.R_reads' HO_12.out).2.2 | (with_reducible refine Kd.C_alloc ?_ _) | (with_reducible refine Kd.C_drewN ?_ _) | (with_reducible refine Kd.C_drew ?_))); (case side2 => exact (Kd.R_reads' HO_12.out).2.1); rintro e w' ⟨rfl, ⟨nd, rfl⟩⟩) | ((with_reducible refine gate_builtin (b := .append) (xs := #[.tmp 101, .tmp 103]) rfl ?_); at_builtin; refine Kd.R_append Kd.string (w0 := w) w.heap.size rfl (.tmp 101) (.tmp 103) 29 9 (.string ⟨#[]⟩) 16 rfl Try.underlying29 info9 rfl (by decide) (by omega) (.slice (some ad186) x12_1.length co41) x12_1 ((rd_T28 t178 x13_1).f0) [.string ((rd_T28 t178 x13_1).f0)] (fun _ => True) (fun _ => False) rfl rfl ?aP (fun _ hk => hk.elim) ?aF ?aO ?aB ?aS ?aL ?_; (case aP => exact rfl); (case aB => exact (by repeat (first | (with_reducible first | exact HB.out | apply below_alloc | apply pw_below_drewN | apply below_drew1) | exact HB.out))); (case aF => exact (fun _ _ => trivial)); (case aO => exact (by (with_reducible repeat (first | apply Kd.R_alloc | apply Kd.R_drewN | apply Kd.R_drew)); exact HO_12.out)); (case aS => exact (below_size (by repeat (first | (with_reducible first | exact HB.out | apply below_alloc | apply pw_below_drewN | apply below_drew1) | exact HB.out)))); (case aL => have := LMc39.out; omega); intro v199 w42 ho hb hg hat; rw [← Ny198.out] at ho; have n0_ := Aside0.mk (Kd.R_over' (by (with_reducible repeat (first | apply Kd.R_alloc | apply Kd.R_drewN | apply Kd.R_drew)); exact HO_10.out) (Kd.R_typed (by (with_reducible repeat (first | apply Kd.R_alloc | apply Kd.R_drewN | apply Kd.R_drew)); exact HO_12.out)) (by decide) hg); have n1_ := Aside0.mk (hb); have n2_ := Aside0.mk (ho); clear HO_10; clear HB; clear HO_12; have HO_10 := n0_; have HB := n1_; have HO200 := n2_; clear n0_ n1_ n2_; clear ho hb hg hat))
                              go_roundg k1
                              case measure => have := HK1.out; omega
                              case rel => exact ⟨(y198), (wrap64 (x13_1 + 1)), (by first | rfl | (simp; done) | (simp [*]; done)), H', ⟨by have := HK1.out; omega⟩, ⟨by (with_reducible repeat (first | apply Kd.R_alloc | apply Kd.R_drewN | apply Kd.R_drew)); exact HO_10.out⟩, ⟨by (with_reducible repeat (first | apply Kd.R_alloc | apply Kd.R_drewN | apply Kd.R_drew)); exact HO200.out⟩, ⟨by repeat (first | (with_reducible first | exact HB.out | apply below_alloc | apply pw_below_drewN | apply below_drew1) | exact HB.out)⟩⟩
                            · rw [if_neg c39] at H
                              exact absurd H (by simp)
                        · rw [if_neg c36] at H
                          exact absurd H (by simp)
                    · rw [if_neg c28] at H
                      exact absurd H (by simp)
                  · rw [if_neg c27] at H
                    exact absurd H (by simp)
                · rw [if_neg c26] at H
                  exact absurd H (by simp)
              · rw [if_neg c24] at H
                have c24b0 : decide (x13_1 < (t178.length : Int)) = false := decide_eq_false c24
                clear c24
                obtain ⟨ji43, hji43⟩ : ∃ j_ : Int, (wrap64 ((x12_1.length : Int) - 1)) = j_ := ⟨_, rfl⟩
                replace H : (if 0 ≤ (ji43) then (if (ji43) < (x12_1.length : Int) then (if (rdOf ByteArray.empty x12_1 (ji43)).toList = t177.toList then (flagstonelaw26_IdentityPaths.l1 k1 t176 t177 t178 0) else (none)) else (none)) else (none)) = some r := by first | (rw [hji43] at H; exact H) | (simp only [hji43] at H ⊢; exact H)
                have hji43w : (IntKind.i64.wrap ((x12_1.length : Int) - 1)) = ji43 := (i64_w _).trans hji43
                by_cases c44 : 0 ≤ (ji43)
                · rw [if_pos c44] at H
                  have c44b0 : decide (0 ≤ (ji43)) = true := decide_eq_true c44
                  clear c44
                  by_cases c45 : (ji43) < (x12_1.length : Int)
                  · rw [if_pos c45] at H
                    have c45b0 : decide ((ji43) < (x12_1.length : Int)) = true := decide_eq_true c45
                    clear c45
                    by_cases c46 : (rdOf ByteArray.empty x12_1 (ji43)).toList = t177.toList
                    · rw [if_pos c46] at H
                      have c46b0 : ((rdOf ByteArray.empty x12_1 (ji43)).toList == t177.toList) = true := beq_iff_eq.mpr c46
                      have c46b1 : ((rdOf ByteArray.empty x12_1 (ji43)).toList != t177.toList) = false := bne_eq_false_iff_eq.mpr c46
                      clear c46
                      have H' := Aside0.mk H
                      clear H
                      obtain ⟨Ao47, co47, eo47⟩ := Kd.R_slice HO_10.out
                      subst eo47
                      obtain ⟨Ao48, co48, eo48⟩ := Kd.R_slice HO_12.out
                      subst eo48
                      have p201 : 0 ≤ ((ji43) : Int) := of_decide_eq_true (by first | (with_reducible assumption) | assumption)
                      have q201 : (ji43) < (x12_1.length : Int) := of_decide_eq_true (by first | (with_reducible assumption) | assumption)
                      obtain ⟨ad201, e201, hx201_0⟩ := Kd.at_string (Kd.R_reads' HO_12.out).2.2 (ji43) p201 q201
                      cases e201
                      replace p201 := eq_true p201
                      replace q201 := eq_true q201
                      go_wp2
                      go_loopg [16] k1 (fun kq v16 w' => ∃ (x16_2 : Int), v16 = .int .i64 x16_2 ∧ Aside0 (flagstonelaw26_IdentityPaths.l1 kq t176 t177 t178 x16_2 = some r) ∧ Aside0 (kq ≤ k1) ∧ Aside0 (Kd.R k28 28 w' w.heap.size (fun _ => True) (.slice Ao47 t178.length co47) t178) ∧ Aside0 (Below w.heap.size w w'))
                      case atStart => exact ⟨(0), (by first | rfl | (simp; done) | (simp [*]; done)), H', ⟨Nat.le_refl _⟩, ⟨by (with_reducible repeat (first | apply Kd.R_alloc | apply Kd.R_drewN | apply Kd.R_drew)); exact HO_10.out⟩, ⟨by repeat (first | (with_reducible first | exact HB.out | apply below_alloc | apply pw_below_drewN | apply below_drew1) | exact HB.out)⟩⟩
                      case round =>
                        clear H'
                        try clear c1
                        try clear p1
                        try clear q1
                        try clear hx1
                        try clear c2
                        try clear p2
                        try clear q2
                        try clear hx2
                        try clear c3
                        try clear c4
                        try clear c5
                        try clear c6
                        try clear c6b0
                        try clear c6b1
                        try clear p6
                        try clear c11
                        try clear c12
                        try clear c13
                        try clear c13b0
                        try clear c13b1
                        try clear c13b2
                        try clear c14
                        try clear c15
                        try clear c16
                        try clear p18
                        try clear q18
                        try clear hx18
                        try clear p19
                        try clear q19
                        try clear hx19
                        try clear p20
                        try clear q20
                        try clear hx20
                        try clear c24
                        try clear c24b0
                        try clear c26
                        try clear c26b0
                        try clear c27
                        try clear c27b0
                        try clear c28
                        try clear c28b0
                        try clear c29
                        try clear c29b0
                        try clear c29b1
                        try clear c31
                        try clear c32
                        try clear c36
                        try clear c36b0
                        try clear c36b1
                        try clear c38
                        try clear c39
                        try clear c44
                        try clear c44b0
                        try clear c45
                        try clear c45b0
                        try clear c46
                        try clear c46b0
                        try clear c46b1
                        try clear hx186_0
                        try clear hx187_0
                        try clear hx187_1
                        try clear hx187_2
                        try clear hx188_0
                        try clear hx188_1
                        try clear hx188_2
                        try clear hx189_0
                        try clear hx189_1
                        try clear hx189_2
                        try clear hx190_0
                        try clear hx190_1
                        try clear hx190_2
                        try clear hx195_0
                        try clear hx195_1
                        try clear hx195_2
                        try clear hx196_0
                        try clear hx196_1
                        try clear hx196_2
                        try clear hx201_0
                        try clear p186
                        try clear p187
                        try clear p188
                        try clear p189
                        try clear p190
                        try clear p195
                        try clear p196
                        try clear p2
                        try clear p201
                        try clear p6
                        try clear q186
                        try clear q187
                        try clear q188
                        try clear q189
                        try clear q190
                        try clear q195
                        try clear q196
                        try clear q201
                        obtain ⟨x16_2, rfl, HA, HK2, HO_10, HB⟩ := hrel
                        cases gk with
                        | zero => exact absurd HA.out (by simp [flagstonelaw26_IdentityPaths.l1])
                        | succ k2 =>
                          have H := HA.out
                          clear HA
                          simp only [flagstonelaw26_IdentityPaths.l1] at H
                          by_cases c49 : x16_2 < (t178.length : Int)
                          · rw [if_pos c49] at H
                            have c49b0 : decide (x16_2 < (t178.length : Int)) = true := decide_eq_true c49
                            clear c49
                            obtain ⟨y202, hy202⟩ : ∃ y_ : List (S28), y_ = (([] : List (S28))) := ⟨_, rfl⟩
                            replace H : (if 0 ≤ x16_2 then (if x16_2 ≤ (t178.length : Int) then ((some (t178.take (x16_2 : Int).toNat : List (S28))).bind fun y205 => (if y202.length + y205.length < 3518437208883 then ((some (y202 ++ y205 : List (S28))).bind fun y209 => (if 0 ≤ (wrap64 (x16_2 + 1)) then (if (wrap64 (x16_2 + 1)) ≤ (t178.length : Int) then ((some (t178.drop ((wrap64 (x16_2 + 1)) : Int).toNat : List (S28))).bind fun y212 => (if y209.length + y212.length < 3518437208883 then ((identity_Same.f (y209 ++ y212) t176 t177).bind fun t219 => (if t219 = true then (none) else (flagstonelaw26_IdentityPaths.l1 k2 t176 t177 t178 (wrap64 (x16_2 + 1))))) else (none))) else (none)) else (none))) else (none))) else (none)) else (none)) = some r := by first | (rw [hy202]; with_reducible exact H) | (have H2_ := (Option.bind_some _ _).symm.trans H; rw [hy202]; with_reducible exact H2_) | (have H2_ := (Option.bind_some _ _).symm.trans H; with_reducible exact H2_) | with_reducible exact H | (rw [hy202]; exact H) | exact H
                            have Ny202 := Aside0.mk hy202
                            clear hy202
                            by_cases c50 : 0 ≤ x16_2
                            · rw [if_pos c50] at H
                              have c50b0 := eq_true c50
                              have c50b1 : decide (0 ≤ x16_2) = true := decide_eq_true c50
                              clear c50
                              by_cases c51 : x16_2 ≤ (t178.length : Int)
                              · rw [if_pos c51] at H
                                have c51b0 := eq_true c51
                                have c51b1 : decide (x16_2 ≤ (t178.length : Int)) = true := decide_eq_true c51
                                clear c51
                                obtain ⟨y205, hy205⟩ : ∃ y_ : List (S28), y_ = (t178.take (x16_2 : Int).toNat) := ⟨_, rfl⟩
                                replace H : (if y202.length + y205.length < 3518437208883 then ((some (y202 ++ y205 : List (S28))).bind fun y209 => (if 0 ≤ (wrap64 (x16_2 + 1)) then (if (wrap64 (x16_2 + 1)) ≤ (t178.length : Int) then ((some (t178.drop ((wrap64 (x16_2 + 1)) : Int).toNat : List (S28))).bind fun y212 => (if y209.length + y212.length < 3518437208883 then ((identity_Same.f (y209 ++ y212) t176 t177).bind fun t219 => (if t219 = true then (none) else (flagstonelaw26_IdentityPaths.l1 k2 t176 t177 t178 (wrap64 (x16_2 + 1))))) else (none))) else (none)) else (none))) else (none)) = some r := by first | (rw [hy205]; with_reducible exact H) | (have H2_ := (Option.bind_some _ _).symm.trans H; rw [hy205]; with_reducible exact H2_) | (have H2_ := (Option.bind_some _ _).symm.trans H; with_reducible exact H2_) | with_reducible exact H | (rw [hy205]; exact H) | exact H
                                have Ny205 := Aside0.mk hy205
                                clear hy205
                                by_cases c52 : y202.length + y205.length < 3518437208883
                                · rw [if_pos c52] at H
                                  have LMc52 := Aside0.mk c52
                                  clear c52
                                  obtain ⟨y209, hy209⟩ : ∃ y_ : List (S28), y_ = (y202 ++ y205) := ⟨_, rfl⟩
                                  replace H : (if 0 ≤ (wrap64 (x16_2 + 1)) then (if (wrap64 (x16_2 + 1)) ≤ (t178.length : Int) then ((some (t178.drop ((wrap64 (x16_2 + 1)) : Int).toNat : List (S28))).bind fun y212 => (if y209.length + y212.length < 3518437208883 then ((identity_Same.f (y209 ++ y212) t176 t177).bind fun t219 => (if t219 = true then (none) else (flagstonelaw26_IdentityPaths.l1 k2 t176 t177 t178 (wrap64 (x16_2 + 1))))) else (none))) else (none)) else (none)) = some r := by first | (rw [hy209]; with_reducible exact H) | (have H2_ := (Option.bind_some _ _).symm.trans H; rw [hy209]; with_reducible exact H2_) | (have H2_ := (Option.bind_some _ _).symm.trans H; with_reducible exact H2_) | with_reducible exact H | (rw [hy209]; exact H) | exact H
                                  have Ny209 := Aside0.mk hy209
                                  clear hy209
                                  obtain ⟨ji53, hji53⟩ : ∃ j_ : Int, (wrap64 (x16_2 + 1)) = j_ := ⟨_, rfl⟩
                                  replace H : (if 0 ≤ (ji53) then (if (ji53) ≤ (t178.length : Int) then ((some (t178.drop ((ji53) : Int).toNat : List (S28))).bind fun y212 => (if y209.length + y212.length < 3518437208883 then ((identity_Same.f (y209 ++ y212) t176 t177).bind fun t219 => (if t219 = true then (none) else (flagstonelaw26_IdentityPaths.l1 k2 t176 t177 t178 ji53))) else (none))) else (none)) else (none)) = some r := by first | (rw [hji53] at H; exact H) | (simp only [hji53] at H ⊢; exact H)
                                  have hji53w : (IntKind.i64.wrap (x16_2 + 1)) = ji53 := (i64_w _).trans hji53
                                  by_cases c54 : 0 ≤ (ji53)
                                  · rw [if_pos c54] at H
                                    have c54b0 := eq_true c54
                                    have c54b1 : decide (0 ≤ (ji53)) = true := decide_eq_true c54
                                    clear c54
                                    by_cases c55 : (ji53) ≤ (t178.length : Int)
                                    · rw [if_pos c55] at H
                                      have c55b0 := eq_true c55
                                      have c55b1 : decide ((ji53) ≤ (t178.length : Int)) = true := decide_eq_true c55
                                      clear c55
                                      obtain ⟨y212, hy212⟩ : ∃ y_ : List (S28), y_ = (t178.drop ((ji53) : Int).toNat) := ⟨_, rfl⟩
                                      replace H : (if y209.length + y212.length < 3518437208883 then ((identity_Same.f (y209 ++ y212) t176 t177).bind fun t219 => (if t219 = true then (none) else (flagstonelaw26_IdentityPaths.l1 k2 t176 t177 t178 ji53))) else (none)) = some r := by first | (rw [hy212]; with_reducible exact H) | (have H2_ := (Option.bind_some _ _).symm.trans H; rw [hy212]; with_reducible exact H2_) | (have H2_ := (Option.bind_some _ _).symm.trans H; with_reducible exact H2_) | with_reducible exact H | (rw [hy212]; exact H) | exact H
                                      have Ny212 := Aside0.mk hy212
                                      clear hy212
                                      by_cases c56 : y209.length + y212.length < 3518437208883
                                      · rw [if_pos c56] at H
                                        have LMc56 := Aside0.mk c56
                                        clear c56
                                        obtain ⟨y216, hy216⟩ : ∃ y_ : List (S28), y_ = (y209 ++ y212) := ⟨_, rfl⟩
                                        replace H : ((identity_Same.f y216 t176 t177).bind fun t219 => (if t219 = true then (none) else (flagstonelaw26_IdentityPaths.l1 k2 t176 t177 t178 ji53))) = some r := by first | (rw [hy216]; with_reducible exact H) | (have H2_ := (Option.bind_some _ _).symm.trans H; rw [hy216]; with_reducible exact H2_) | (have H2_ := (Option.bind_some _ _).symm.trans H; with_reducible exact H2_) | with_reducible exact H | (rw [hy216]; exact H) | exact H
                                        have Ny216 := Aside0.mk hy216
                                        clear hy216
                                        replace H := Option.bind_eq_some_iff.mp H
                                        obtain ⟨t219, A570, H⟩ := H
                                        replace H : (if t219 = true then (none) else (flagstonelaw26_IdentityPaths.l1 k2 t176 t177 t178 ji53)) = some r := H
                                        have A57 := Aside0.mk A570
                                        clear A570
                                        by_cases c58 : t219 = true
                                        · subst c58
                                          have H1 : (none) = some r := by rw [if_pos rfl] at H; exact H
                                          clear H
                                          have H := H1
                                          clear H1
                                          exact absurd H (by simp)
                                        · replace c58 := Bool.eq_false_iff.mpr c58
                                          subst c58
                                          have H1 : (flagstonelaw26_IdentityPaths.l1 k2 t176 t177 t178 ji53) = some r := by rw [if_neg (show ¬ (false = true) by decide)] at H; exact H
                                          clear H
                                          have H := H1
                                          clear H1
                                          have H' := Aside0.mk H
                                          clear H
                                          try go_wp2
                                          have n0_ := Aside0.mk (Kd.R_drew HO_10.out)
                                          have n1_ := Aside0.mk (below_drew1 HB.out)
                                          clear HO_10
                                          clear HB
                                          have HO_10 := n0_
                                          have HB := n1_
                                          clear n0_ n1_
                                          have q60 : (x16_2 : Int) ≤ ((t178.length : Int) : Int) := of_decide_eq_true (by first | (with_reducible assumption) | assumption)
                                          obtain ⟨i060, hi060, _, hsz60, _⟩ := info_parts info28
                                          have hroom60 : t178.length ≤ co47 := (Kd.R_reads' HO_10.out).2.1
                                          have hC60 : Kd.C k28 _ Ao47 t178.length t178 := (Kd.R_reads' HO_10.out).2.2
                                          have hcut60 := cut_to (P := Try.prog) 24 28 .i64 Try.underlying24 hi060 Ao47 t178.length co47 x16_2 (of_decide_eq_true (by first | (with_reducible assumption) | assumption)) q60 hroom60
                                          have hr60 := Kd.C_take (m := (x16_2 : Int).toNat) hC60 (by omega)
                                          have hy60 : y205.length = (x16_2 : Int).toNat := (by rw [Ny205.out, List.length_take]; omega)
                                          rw [← Ny205.out] at hr60
                                          rw [← hy60] at hcut60
                                          have HR208 := Aside0.mk hr60
                                          have HC208 := Aside0.mk (show y205.length ≤ co47 from by omega)
                                          clear hr60 hC60 hroom60 hi060 hsz60
                                          have KY60 := Aside0.mk hy60
                                          clear hy60
                                          have KL60 := Aside0.mk (show (x16_2 : Int).toNat ≤ t178.length from by omega)
                                          replace q60 := eq_true q60
                                          have q61 : ((ji53) : Int) ≤ ((t178.length : Int) : Int) := of_decide_eq_true (by first | (with_reducible assumption) | assumption)
                                          obtain ⟨i061, hi061, _, hsz61, _⟩ := info_parts info28
                                          have hroom61 : t178.length ≤ co47 := (Kd.R_reads' HO_10.out).2.1
                                          have hC61 : Kd.C k28 _ Ao47 t178.length t178 := (Kd.R_reads' HO_10.out).2.2
                                          have q061 : (0 : Int) ≤ ((ji53) : Int) := of_decide_eq_true (by first | (with_reducible assumption) | assumption)
                                          have hcut61 := cut_from (P := Try.prog) 24 28 .i64 Try.underlying24 hi061 3 hsz61 Ao47 t178.length co47 (ji53) q061 q61
                                          have hr61 := Kd.C_drop (m := ((ji53) : Int).toNat) (c := co47) hC61 (by omega) hroom61
                                          obtain ⟨A61, hA61⟩ : ∃ A1, A1 = (if co47 = ((ji53) : Int).toNat then Ao47 else (Ao47 : Option Addr).map (·.add (((ji53) : Int).toNat * 3))) := ⟨_, rfl⟩
                                          obtain ⟨c61, hc61⟩ : ∃ c1, c1 = co47 - ((ji53) : Int).toNat := ⟨_, rfl⟩
                                          have hy61 : y212.length = t178.length - ((ji53) : Int).toNat := (by rw [Ny212.out, List.length_drop] <;> omega)
                                          rw [show (t178).drop ((ji53) : Int).toNat = y212 from Ny212.out.symm] at hr61
                                          replace hr61 : Kd.C k28 _ A61 y212.length y212 := (by rw [hA61]; exact hr61)
                                          rw [← hy61, ← hA61, ← hc61] at hcut61
                                          have HR215 := Aside0.mk hr61
                                          have HC215 := Aside0.mk (show y212.length ≤ c61 from by rw [hy61, hc61]; exact Nat.sub_le_sub_right hroom61 _)
                                          clear hr61 hC61 hroom61 hi061 hsz61 hc61
                                          have KY61 := Aside0.mk hy61
                                          have KA61 := Aside0.mk hA61
                                          clear hy61 hA61
                                          have KL61 := Aside0.mk (show ((ji53) : Int).toNat ≤ t178.length from by omega)
                                          replace q61 := eq_true q61
                                          refine start_ (n := 11) (S := fun w' => True) (ds := []) #[false, false, false, false, false, false, false, false, false, false, false] (by kernel_rfl) rfl rfl trivial (fun hHeld => ?_); refine with_tabW flagstonelaw26_IdentityPaths.tab28 flagstonelaw26_IdentityPaths.bits28 (fun HT_ HW_ => ?_)
                                          generalize wr.drew = w59 at HO_10 HB HR208 HR215 hHeld ⊢
                                          refine pure_ (i := 1) (N := some 120) (v := ?_) (a' := ?_) #[false, true, false, false, false, false, false, false, false, false, false] rfl rfl (any_of HT_.out (by kernel_rfl)) (fun _ _ _ h => h) (Or.inl ⟨by rfl, ?_⟩) ?_ ?_
                                          rotate_left
                                          · intro w'
                                            go_simp
                                            with_reducible rfl
                                          rotate_left
                                          · simp only [Act.put, List.setIfInBounds_toArray, List.set_cons_zero, List.set_cons_succ, i64_w, i32_w]
                                            rfl
                                          refine pure_ (i := 2) (N := some 121) (v := ?_) (a' := ?_) #[false, true, true, false, false, false, false, false, false, false, false] rfl rfl (any_of HT_.out (by kernel_rfl)) (fun _ _ _ h => h) (Or.inl ⟨by rfl, ?_⟩) ?_ ?_
                                          rotate_left
                                          · intro w'
                                            go_simp
                                            with_reducible rfl
                                          rotate_left
                                          · simp only [Act.put, List.setIfInBounds_toArray, List.set_cons_zero, List.set_cons_succ, i64_w, i32_w]
                                            rfl
                                          refine pure_ (i := 3) (N := some 122) (v := ?_) (a' := ?_) #[false, true, true, true, false, false, false, false, false, false, false] rfl rfl (any_of HT_.out (by kernel_rfl)) (fun _ _ _ h => h) (Or.inl ⟨by rfl, ?_⟩) ?_ ?_
                                          rotate_left
                                          · intro w'
                                            go_simp
                                            with_reducible rfl
                                          rotate_left
                                          · simp only [Act.put, List.setIfInBounds_toArray, List.set_cons_zero, List.set_cons_succ, i64_w, i32_w]
                                            rfl
                                          refine pure_ (i := 5) (N := some 124) (v := ?_) (a' := ?_) #[false, true, true, true, false, true, false, false, false, false, false] rfl rfl (any_of HT_.out (by kernel_rfl)) (fun _ _ _ h => h) (Or.inl ⟨by rfl, ?_⟩) ?_ ?_
                                          rotate_left
                                          · intro w'
                                            go_simp
                                            with_reducible rfl
                                          rotate_left
                                          · simp only [Act.put, List.setIfInBounds_toArray, List.set_cons_zero, List.set_cons_succ, i64_w, i32_w]
                                            rfl
                                          refine pure_ (i := 6) (N := some 125) (v := ?_) (a' := ?_) #[false, true, true, true, false, true, true, false, false, false, false] rfl rfl (any_of HT_.out (by kernel_rfl)) (fun _ _ _ h => h) (Or.inl ⟨by rfl, ?_⟩) ?_ ?_
                                          rotate_left
                                          · intro w'
                                            go_simp
                                            with_reducible rfl
                                          rotate_left
                                          · simp only [Act.put, List.setIfInBounds_toArray, List.set_cons_zero, List.set_cons_succ, i64_w, i32_w]
                                            rfl
                                          refine pure_ (i := 7) (N := some 126) (v := ?_) (a' := ?_) #[false, true, true, true, false, true, true, true, false, false, false] rfl rfl (any_of HT_.out (by kernel_rfl)) (fun _ _ _ h => h) (Or.inl ⟨by rfl, ?_⟩) ?_ ?_
                                          rotate_left
                                          · intro w'
                                            go_simp
                                            with_reducible rfl
                                          rotate_left
                                          · simp only [Act.put, List.setIfInBounds_toArray, List.set_cons_zero, List.set_cons_succ, i64_w, i32_w]
                                            rfl
                                          refine pure_ (i := 8) (N := some 127) (v := ?_) (a' := ?_) #[false, true, true, true, false, true, true, true, true, false, false] rfl rfl (any_of HT_.out (by kernel_rfl)) (fun _ _ _ h => h) (Or.inl ⟨by rfl, ?_⟩) ?_ ?_
                                          rotate_left
                                          · intro w'
                                            go_simp
                                            with_reducible rfl
                                          rotate_left
                                          · simp only [Act.put, List.setIfInBounds_toArray, List.set_cons_zero, List.set_cons_succ, i64_w, i32_w]
                                            rfl
                                          refine one_ (i := 0) (N := some 119) #[true, true, true, true, false, true, true, true, true, false, false] rfl rfl (one_of HT_.out (by kernel_rfl)) (by decide) (fun K hK => ?_)
                                          refine Kd.R_lit_step k28 _ 28 ?hg (N := 119) ?hd (xs := ([] : List (S28))) (inner := []) (ok := fun _ => True) (okp := fun _ => True) ?hr ?hp (fun _ hk => hk) trivial (Below.refl _ _) (Nat.le_refl _) (by simp) ?_; (case hd => rfl); (case hg => rfl); (case hr => first | (go_simp; done) | (go_simp; rfl)); (case hp => exact (Reps.none _ _))
                                          intro v203 w62 ho63 hb hg_ hnew_
                                          clear hg_ hnew_
                                          (first | rw [← Ny202.out] at ho63 | (simp only [Int.reduceToNat] at ho63; rw [← Ny202.out] at ho63))
                                          have n0_ := Aside0.mk (Kd.R_elder' (by (with_reducible repeat (first | apply Kd.R_alloc | apply Kd.R_drewN | apply Kd.R_drew)); exact HO_10.out) (Kd.R_base ho63) hb)
                                          have n1_ := Aside0.mk (Kd.R_lower (Kd.R_new' ho63 (Kd.R_lt (by (with_reducible repeat (first | apply Kd.R_alloc | apply Kd.R_drewN | apply Kd.R_drew)); exact HO_10.out))) (below_size (by repeat (first | (with_reducible first | exact HB.out | apply below_alloc | apply pw_below_drewN | apply below_drew1) | exact HB.out))))
                                          have n2_ := Aside0.mk (Kd.C_below (by repeat (first | (with_reducible exact HR208.out) | (with_reducible refine Kd.C_alloc ?_ _) | (with_reducible refine Kd.C_drewN ?_ _) | (with_reducible refine Kd.C_drew ?_) | exact HR208.out)) hb)
                                          have n3_ := Aside0.mk (Kd.C_below (by repeat (first | (with_reducible exact HR215.out) | (with_reducible refine Kd.C_alloc ?_ _) | (with_reducible refine Kd.C_drewN ?_ _) | (with_reducible refine Kd.C_drew ?_) | exact HR215.out)) hb)
                                          have n4_ := Aside0.mk (below_step (by repeat (first | (with_reducible first | exact HB.out | apply below_alloc | apply pw_below_drewN | apply below_drew1) | exact HB.out)) hb)
                                          clear HO_10
                                          clear HR208
                                          clear HR215
                                          clear HB
                                          have HO_10 := n0_
                                          have HO204 := n1_
                                          have HR208 := n2_
                                          have HR215 := n3_
                                          have HB := n4_
                                          clear n0_ n1_ n2_ n3_ n4_
                                          clear hb ho63
                                          refine hK.out _ _ trivial (fun hHeld => ?_)
                                          clear hK K
                                          refine norm_ (a' := ?_) ?_ ?_
                                          rotate_left
                                          · show Act.put _ (some 119) _ = _
                                            simp only [Act.put, List.setIfInBounds_toArray, List.set_cons_zero, List.set_cons_succ, i64_w, i32_w]
                                            rfl
                                          refine one_ (i := 4) (N := some 123) #[true, true, true, true, true, true, true, true, true, false, false] rfl rfl (one_of HT_.out (by kernel_rfl)) (by decide) (fun K hK => ?_)
                                          refine Kd.R_append_rows_step k28 (w0 := w) w.heap.size (by rfl) (.tmp 119) (.tmp 122) 24 28 (.agg #[(.string ⟨#[]⟩), (.string ⟨#[]⟩), (.int .i64 0)]) 40 rfl Try.underlying24 info28 rfl (by decide) (by omega) v203 y202 y205 _ _ _ (fun k_ => some k_ ≠ (.slice Ao47 t178.length co47 : Value).ownBlock) (fun _ => False) rfl rfl ?aO ?aR (fun _ _ h => h) (fun _ h => h.elim) ?aF ?aB ?aS ?aL ?_
                                          (case aR => repeat (first | exact (by repeat (first | (with_reducible exact HR208.out) | (with_reducible refine Kd.C_alloc ?_ _) | (with_reducible refine Kd.C_drewN ?_ _) | (with_reducible refine Kd.C_drew ?_) | exact HR208.out)) | (with_reducible refine Kd.C_alloc ?_ _) | (with_reducible refine Kd.C_drewN ?_ _) | (with_reducible refine Kd.C_drew ?_)))
                                          (case aB => exact (by repeat (first | (with_reducible first | exact HB.out | apply below_alloc | apply pw_below_drewN | apply below_drew1) | exact HB.out)))
                                          (case aF => exact (fun k_ hk => Kd.fresh' (Kd.R_lt (by (with_reducible repeat (first | apply Kd.R_alloc | apply Kd.R_drewN | apply Kd.R_drew)); exact HO_10.out)) k_ hk))
                                          (case aO => exact (by (with_reducible repeat (first | apply Kd.R_alloc | apply Kd.R_drewN | apply Kd.R_drew)); exact Kd.R_mono HO204.out (fun _ hk => hk.2)))
                                          (case aS => exact (below_size (by repeat (first | (with_reducible first | exact HB.out | apply below_alloc | apply pw_below_drewN | apply below_drew1) | exact HB.out))))
                                          (case aL => have := LMc52.out; omega)
                                          intro v210 w64 ho hb hg hat
                                          rw [← Ny209.out] at ho
                                          have n0_ := Aside0.mk (Kd.R_after (ok := (fun _ => True)) (by (with_reducible repeat (first | apply Kd.R_alloc | apply Kd.R_drewN | apply Kd.R_drew)); exact HO_10.out) hg hat)
                                          have n1_ := Aside0.mk (hb)
                                          have n2_ := Aside0.mk ((show Kd.C k28 w64 Ao47 y205.length y205 from by rw [Ny205.out]; exact Kd.C_take (m := (x16_2 : Int).toNat) ((Kd.R_reads' (Kd.R_after (ok := (fun _ => True)) (by (with_reducible repeat (first | apply Kd.R_alloc | apply Kd.R_drewN | apply Kd.R_drew)); exact HO_10.out) hg hat)).2.2) KL60.out))
                                          have n3_ := Aside0.mk ((show Kd.C k28 w64 A61 y212.length y212 from by rw [Ny212.out, KA61.out]; exact Kd.C_drop (m := ((ji53) : Int).toNat) (c := co47) ((Kd.R_reads' (Kd.R_after (ok := (fun _ => True)) (by (with_reducible repeat (first | apply Kd.R_alloc | apply Kd.R_drewN | apply Kd.R_drew)); exact HO_10.out) hg hat)).2.2) KL61.out ((Kd.R_reads' (Kd.R_after (ok := (fun _ => True)) (by (with_reducible repeat (first | apply Kd.R_alloc | apply Kd.R_drewN | apply Kd.R_drew)); exact HO_10.out) hg hat)).2.1)))
                                          have n4_ := Aside0.mk (ho)
                                          clear HO_10
                                          clear HB
                                          clear HR208
                                          clear HR215
                                          clear HO204
                                          have HO_10 := n0_
                                          have HB := n1_
                                          have HR208 := n2_
                                          have HR215 := n3_
                                          have HO211 := n4_
                                          clear n0_ n1_ n2_ n3_ n4_
                                          clear ho hb hg hat
                                          refine hK.out _ _ trivial (fun hHeld => ?_)
                                          clear hK K
                                          refine norm_ (a' := ?_) ?_ ?_
                                          rotate_left
                                          · show Act.put _ (some 123) _ = _
                                            simp only [Act.put, List.setIfInBounds_toArray, List.set_cons_zero, List.set_cons_succ, i64_w, i32_w]
                                            rfl
                                          refine one_ (i := 9) (N := some 128) #[true, true, true, true, true, true, true, true, true, true, false] rfl rfl (one_of HT_.out (by kernel_rfl)) (by decide) (fun K hK => ?_)
                                          refine Kd.R_append_rows_step k28 (w0 := w) w.heap.size (by rfl) (.tmp 123) (.tmp 127) 24 28 (.agg #[(.string ⟨#[]⟩), (.string ⟨#[]⟩), (.int .i64 0)]) 40 rfl Try.underlying24 info28 rfl (by decide) (by omega) v210 y209 y212 _ _ _ (fun k_ => some k_ ≠ (.slice Ao47 t178.length co47 : Value).ownBlock) (fun _ => False) rfl rfl ?aO ?aR (fun _ _ h => h) (fun _ h => h.elim) ?aF ?aB ?aS ?aL ?_
                                          (case aR => repeat (first | exact (by repeat (first | (with_reducible exact HR215.out) | (with_reducible refine Kd.C_alloc ?_ _) | (with_reducible refine Kd.C_drewN ?_ _) | (with_reducible refine Kd.C_drew ?_) | exact HR215.out)) | (with_reducible refine Kd.C_alloc ?_ _) | (with_reducible refine Kd.C_drewN ?_ _) | (with_reducible refine Kd.C_drew ?_)))
                                          (case aB => exact (by repeat (first | (with_reducible first | exact HB.out | apply below_alloc | apply pw_below_drewN | apply below_drew1) | exact HB.out)))
                                          (case aF => exact (fun k_ hk => Kd.fresh' (Kd.R_lt (by (with_reducible repeat (first | apply Kd.R_alloc | apply Kd.R_drewN | apply Kd.R_drew)); exact HO_10.out)) k_ hk))
                                          (case aO => exact (by (with_reducible repeat (first | apply Kd.R_alloc | apply Kd.R_drewN | apply Kd.R_drew)); exact HO211.out))
                                          (case aS => exact (below_size (by repeat (first | (with_reducible first | exact HB.out | apply below_alloc | apply pw_below_drewN | apply below_drew1) | exact HB.out))))
                                          (case aL => have := LMc56.out; omega)
                                          intro v217 w65 ho hb hg hat
                                          rw [← Ny216.out] at ho
                                          have n0_ := Aside0.mk (Kd.R_after (ok := (fun _ => True)) (by (with_reducible repeat (first | apply Kd.R_alloc | apply Kd.R_drewN | apply Kd.R_drew)); exact HO_10.out) hg hat)
                                          have n1_ := Aside0.mk (hb)
                                          have n2_ := Aside0.mk ((show Kd.C k28 w65 Ao47 y205.length y205 from by rw [Ny205.out]; exact Kd.C_take (m := (x16_2 : Int).toNat) ((Kd.R_reads' (Kd.R_after (ok := (fun _ => True)) (by (with_reducible repeat (first | apply Kd.R_alloc | apply Kd.R_drewN | apply Kd.R_drew)); exact HO_10.out) hg hat)).2.2) KL60.out))
                                          have n3_ := Aside0.mk ((show Kd.C k28 w65 A61 y212.length y212 from by rw [Ny212.out, KA61.out]; exact Kd.C_drop (m := ((ji53) : Int).toNat) (c := co47) ((Kd.R_reads' (Kd.R_after (ok := (fun _ => True)) (by (with_reducible repeat (first | apply Kd.R_alloc | apply Kd.R_drewN | apply Kd.R_drew)); exact HO_10.out) hg hat)).2.2) KL61.out ((Kd.R_reads' (Kd.R_after (ok := (fun _ => True)) (by (with_reducible repeat (first | apply Kd.R_alloc | apply Kd.R_drewN | apply Kd.R_drew)); exact HO_10.out) hg hat)).2.1)))
                                          have n4_ := Aside0.mk (ho)
                                          clear HO_10
                                          clear HB
                                          clear HR208
                                          clear HR215
                                          clear HO211
                                          have HO_10 := n0_
                                          have HB := n1_
                                          have HR208 := n2_
                                          have HR215 := n3_
                                          have HO218 := n4_
                                          clear n0_ n1_ n2_ n3_ n4_
                                          clear ho hb hg hat
                                          refine hK.out _ _ trivial (fun hHeld => ?_)
                                          clear hK K
                                          refine norm_ (a' := ?_) ?_ ?_
                                          rotate_left
                                          · show Act.put _ (some 128) _ = _
                                            simp only [Act.put, List.setIfInBounds_toArray, List.set_cons_zero, List.set_cons_succ, i64_w, i32_w]
                                            rfl
                                          refine pure_ (i := 10) (N := some 17) (v := ?_) (a' := ?_) #[true, true, true, true, true, true, true, true, true, true, true] rfl rfl (any_of HT_.out (by kernel_rfl)) (fun _ _ _ h => h) (Or.inl ⟨by rfl, ?_⟩) ?_ ?_
                                          rotate_left
                                          · intro w'
                                            go_simp
                                            with_reducible rfl
                                          rotate_left
                                          · simp only [Act.put, List.setIfInBounds_toArray, List.set_cons_zero, List.set_cons_succ, i64_w, i32_w]
                                            rfl
                                          refine done_ (done_of HT_.out (by kernel_rfl)) ?_
                                          obtain ⟨Ao66, co66, eo66⟩ := Kd.R_slice HO218.out
                                          subst eo66
                                          try go_wp2_with (first | ((with_reducible refine gate_callee (f := 15) rfl ?_); refine goesL_ (some 132) rfl rfl Try.func15 (by kernel_rfl) rfl #[.slice Ao66 y216.length co66, .string t176, .string t177] rfl (by (try simp only [List.map_toArray, List.map_cons, List.map_nil]); first | done | rfl | (simp only [List.length_drop, List.length_take]; rfl)) ?_; (with_reducible refine (identity_Same.calls _ _ y216 t176 t177 false _ ?side1 ?side2 A57.out).mono ?_); (case side1 => repeat (first | exact (Kd.R_reads' HO218.out).2.2 | (with_reducible refine Kd.C_alloc ?_ _) | (with_reducible refine Kd.C_drewN ?_ _) | (with_reducible refine Kd.C_drew ?_))); (case side2 => exact (Kd.R_reads' HO218.out).2.1); rintro e w67 ⟨rfl, hb⟩; refine ⟨_, rfl, ?_⟩; have n0_ := Aside0.mk (Kd.R_below (by (with_reducible repeat (first | apply Kd.R_alloc | apply Kd.R_drewN | apply Kd.R_drew)); exact HO_10.out) hb); have n1_ := Aside0.mk (Kd.R_below (by (with_reducible repeat (first | apply Kd.R_alloc | apply Kd.R_drewN | apply Kd.R_drew)); exact HO218.out) hb); have n2_ := Aside0.mk (Kd.C_below (by repeat (first | (with_reducible exact HR208.out) | (with_reducible refine Kd.C_alloc ?_ _) | (with_reducible refine Kd.C_drewN ?_ _) | (with_reducible refine Kd.C_drew ?_) | exact HR208.out)) hb); have n3_ := Aside0.mk (Kd.C_below (by repeat (first | (with_reducible exact HR215.out) | (with_reducible refine Kd.C_alloc ?_ _) | (with_reducible refine Kd.C_drewN ?_ _) | (with_reducible refine Kd.C_drew ?_) | exact HR215.out)) hb); have n4_ := Aside0.mk (below_step (by repeat (first | (with_reducible first | exact HB.out | apply below_alloc | apply pw_below_drewN | apply below_drew1) | exact HB.out)) hb); clear HO_10; clear HO218; clear HR208; clear HR215; clear HB; have HO_10 := n0_; have HO218 := n1_; have HR208 := n2_; have HR215 := n3_; have HB := n4_; clear n0_ n1_ n2_ n3_ n4_; (try clear hb); (try clear hb2); (try clear hk); (try clear hi)))
                                          go_roundg k2
                                          case measure => have := HK1.out; have := HK2.out; omega
                                          case rel => exact ⟨(ji53), (by first | rfl | (simp; done) | (simp only [← hji53] <;> (first | rfl | simp)) | (simp [*]; done)), H', ⟨by have := HK1.out; have := HK2.out; omega⟩, ⟨by (with_reducible repeat (first | apply Kd.R_alloc | apply Kd.R_drewN | apply Kd.R_drew)); exact Kd.R_mono HO_10.out (fun _ hk => trivial)⟩, ⟨by repeat (first | (with_reducible first | exact HB.out | apply below_alloc | apply pw_below_drewN | apply below_drew1) | exact HB.out)⟩⟩
                                      · rw [if_neg c56] at H
                                        exact absurd H (by simp)
                                    · rw [if_neg c55] at H
                                      exact absurd H (by simp)
                                  · rw [if_neg c54] at H
                                    exact absurd H (by simp)
                                · rw [if_neg c52] at H
                                  exact absurd H (by simp)
                              · rw [if_neg c51] at H
                                exact absurd H (by simp)
                            · rw [if_neg c50] at H
                              exact absurd H (by simp)
                          · rw [if_neg c49] at H
                            have c49b0 : decide (x16_2 < (t178.length : Int)) = false := decide_eq_false c49
                            clear c49
                            obtain rfl := Option.some.inj H
                            go_wp2
                            go_ret
                            exact ⟨by first | rfl | (simp [errW_none, errW_some] <;> rfl) | (simp only [← hji43]; first | rfl | (simp [errW_none, errW_some] <;> rfl)) | (simp [*, errW_none, errW_some] <;> rfl), by repeat (first | (with_reducible first | exact HB.out | apply below_alloc | apply pw_below_drewN | apply below_drew1) | exact HB.out)⟩
                    · rw [if_neg c46] at H
                      exact absurd H (by simp)
                  · rw [if_neg c45] at H
                    exact absurd H (by simp)
                · rw [if_neg c44] at H
                  exact absurd H (by simp)
        · replace c14 := Bool.eq_false_iff.mpr c14
          subst c14
          have H1 : (some ((t178.length : Int) == 0)) = some r := by rw [if_neg (show ¬ (false = true) by decide)] at H; exact H
          clear H
          have H := H1
          clear H1
          obtain rfl := Option.some.inj H
          go_enter Try.func4, Try.ntmps4
          go_wp2_with (first | ((with_reducible refine gate_callee (f := 11) rfl ?_); refine goesL_ (some 18) rfl rfl Try.func11 (by kernel_rfl) rfl #[] rfl (by (try simp only [List.map_toArray, List.map_cons, List.map_nil]); first | done | rfl | (simp only [List.length_drop, List.length_take]; rfl)) ?_; (with_reducible refine (flagstonelaw26_awake.calls k  true _ A4.out).mono ?_); rintro e w68 ⟨rfl, hb⟩; refine ⟨_, rfl, ?_⟩; have n0_ := Aside0.mk (below_step (by repeat (first | (with_reducible first | exact HB.out | apply below_alloc | apply pw_below_drewN | apply below_drew1) | exact HB.out)) hb); clear HB; have HB := n0_; clear n0_; (try clear hb); (try clear hb2); (try clear hk); (try clear hi)) | ((with_reducible refine gate_callee (f := 12) rfl ?_); refine goesL_ (some 24) rfl rfl Try.func12 (by kernel_rfl) rfl #[.slice A0 l0.length c0, .bool true] rfl (by (try simp only [List.map_toArray, List.map_cons, List.map_nil]); first | done | rfl | (simp only [List.length_drop, List.length_take]; rfl)) ?_; (with_reducible refine (flagstonedata_Links.calls _ _ l0 true t173 _ ?side1 ?side2 A8.out).mono ?_); (case side1 => repeat (first | exact (Kd.C_below HR0.out HB.out) | (with_reducible refine Kd.C_alloc ?_ _) | (with_reducible refine Kd.C_drewN ?_ _) | (with_reducible refine Kd.C_drew ?_))); (case side2 => exact HC0.out); rintro e w69 ⟨v174, rfl, ho0, hb⟩; refine ⟨_, rfl, ?_⟩; have n0_ := Aside0.mk (Kd.R_lower ho0 (below_size (by repeat (first | (with_reducible first | exact HB.out | apply below_alloc | apply pw_below_drewN | apply below_drew1) | exact HB.out)))); have n1_ := Aside0.mk (below_step (by repeat (first | (with_reducible first | exact HB.out | apply below_alloc | apply pw_below_drewN | apply below_drew1) | exact HB.out)) hb); clear HB; have HO175 := n0_; have HB := n1_; clear n0_ n1_; (try clear hb); (try clear hb2); (try clear hk); (try clear hi); (try clear ho0)) | ((with_reducible refine gate_callee (f := 13) rfl ?_); refine goesL_ (some 27) rfl rfl Try.func13 (by kernel_rfl) rfl #[.int .i64 (wrap64 (a1))] rfl (by (try simp only [List.map_toArray, List.map_cons, List.map_nil]); first | done | rfl | (simp only [List.length_drop, List.length_take]; rfl)) ?_; (with_reducible refine (flagstonedata_Id.calls (wrap64 (a1)) t176 _ A9.out).mono ?_); rintro e w70 ⟨rfl, hb⟩; refine ⟨_, rfl, ?_⟩; have n0_ := Aside0.mk (Kd.R_below (by (with_reducible repeat (first | apply Kd.R_alloc | apply Kd.R_drewN | apply Kd.R_drew)); exact HO175.out) hb); have n1_ := Aside0.mk (below_step (by repeat (first | (with_reducible first | exact HB.out | apply below_alloc | apply pw_below_drewN | apply below_drew1) | exact HB.out)) hb); clear HO175; clear HB; have HO175 := n0_; have HB := n1_; clear n0_ n1_; (try clear hb); (try clear hb2); (try clear hk); (try clear hi)) | ((with_reducible refine gate_callee (f := 13) rfl ?_); refine goesL_ (some 30) rfl rfl Try.func13 (by kernel_rfl) rfl #[.int .i64 (wrap64 (a2))] rfl (by (try simp only [List.map_toArray, List.map_cons, List.map_nil]); first | done | rfl | (simp only [List.length_drop, List.length_take]; rfl)) ?_; (with_reducible refine (flagstonedata_Id.calls (wrap64 (a2)) t177 _ A10.out).mono ?_); rintro e w71 ⟨rfl, hb⟩; refine ⟨_, rfl, ?_⟩; have n0_ := Aside0.mk (Kd.R_below (by (with_reducible repeat (first | apply Kd.R_alloc | apply Kd.R_drewN | apply Kd.R_drew)); exact HO175.out) hb); have n1_ := Aside0.mk (below_step (by repeat (first | (with_reducible first | exact HB.out | apply below_alloc | apply pw_below_drewN | apply below_drew1) | exact HB.out)) hb); clear HO175; clear HB; have HO175 := n0_; have HB := n1_; clear n0_ n1_; (try clear hb); (try clear hb2); (try clear hk); (try clear hi); obtain ⟨Ao72, co72, eo72⟩ := Kd.R_slice HO175.out; subst eo72) | ((with_reducible refine gate_callee (f := 16) rfl ?_); refine goesL_ (some 35) rfl rfl Try.func16 (by kernel_rfl) rfl #[.slice Ao72 t173.length co72, .string t176, .string t177] rfl (by (try simp only [List.map_toArray, List.map_cons, List.map_nil]); first | done | rfl | (simp only [List.length_drop, List.length_take]; rfl)) ?_; (with_reducible refine (identity_Path.calls _ _ t173 t176 t177 t178 false _ ?side1 ?side2 A11.out).mono ?_); (case side1 => repeat (first | exact (Kd.R_reads' HO175.out).2.2 | (with_reducible refine Kd.C_alloc ?_ _) | (with_reducible refine Kd.C_drewN ?_ _) | (with_reducible refine Kd.C_drew ?_))); (case side2 => exact (Kd.R_reads' HO175.out).2.1); rintro e w73 ⟨v180, rfl, ho0, hb⟩; refine ⟨_, rfl, ?_⟩; have n0_ := Aside0.mk (Kd.R_elder' (by (with_reducible repeat (first | apply Kd.R_alloc | apply Kd.R_drewN | apply Kd.R_drew)); exact HO175.out) (Kd.R_base ho0) hb); have n1_ := Aside0.mk (Kd.R_lower (Kd.R_new' ho0 (Kd.R_lt (by (with_reducible repeat (first | apply Kd.R_alloc | apply Kd.R_drewN | apply Kd.R_drew)); exact HO175.out))) (below_size (by repeat (first | (with_reducible first | exact HB.out | apply below_alloc | apply pw_below_drewN | apply below_drew1) | exact HB.out)))); have n2_ := Aside0.mk (below_step (by repeat (first | (with_reducible first | exact HB.out | apply below_alloc | apply pw_below_drewN | apply below_drew1) | exact HB.out)) hb); clear HO175; clear HB; have HO175 := n0_; have HO181 := n1_; have HB := n2_; clear n0_ n1_ n2_; (try clear hb); (try clear hb2); (try clear hk); (try clear hi); (try clear ho0)) | ((with_reducible refine gate_callee (f := 15) rfl ?_); refine goesL_ (some 42) rfl rfl Try.func15 (by kernel_rfl) rfl #[.slice Ao72 t173.length co72, .string t176, .string t177] rfl (by (try simp only [List.map_toArray, List.map_cons, List.map_nil]); first | done | rfl | (simp only [List.length_drop, List.length_take]; rfl)) ?_; (with_reducible refine (identity_Same.calls _ _ t173 t176 t177 t182 _ ?side1 ?side2 A12.out).mono ?_); (case side1 => repeat (first | exact (Kd.R_reads' HO175.out).2.2 | (with_reducible refine Kd.C_alloc ?_ _) | (with_reducible refine Kd.C_drewN ?_ _) | (with_reducible refine Kd.C_drew ?_))); (case side2 => exact (Kd.R_reads' HO175.out).2.1); rintro e w74 ⟨rfl, hb⟩; refine ⟨_, rfl, ?_⟩; have n0_ := Aside0.mk (Kd.R_below (by (with_reducible repeat (first | apply Kd.R_alloc | apply Kd.R_drewN | apply Kd.R_drew)); exact HO175.out) hb); have n1_ := Aside0.mk (Kd.R_below (by (with_reducible repeat (first | apply Kd.R_alloc | apply Kd.R_drewN | apply Kd.R_drew)); exact HO181.out) hb); have n2_ := Aside0.mk (below_step (by repeat (first | (with_reducible first | exact HB.out | apply below_alloc | apply pw_below_drewN | apply below_drew1) | exact HB.out)) hb); clear HO175; clear HO181; clear HB; have HO175 := n0_; have HO181 := n1_; have HB := n2_; clear n0_ n1_ n2_; (try clear hb); (try clear hb2); (try clear hk); (try clear hi); obtain ⟨Ao75, co75, eo75⟩ := Kd.R_slice HO181.out; subst eo75))
          go_ret
          exact ⟨by first | rfl | (simp [errW_none, errW_some] <;> rfl) | (simp [*, errW_none, errW_some] <;> rfl), by repeat (first | (with_reducible first | exact HB.out | apply below_alloc | apply pw_below_drewN | apply below_drew1) | exact HB.out)⟩
  · replace c5 := Bool.eq_false_iff.mpr c5
    subst c5
    have H1 : (none) = some r := by rw [if_neg (show ¬ (false = true) by decide)] at H; exact H
    clear H
    have H := H1
    clear H1
    exact absurd H (by simp)

/-- THE ONE PURE STATEMENT of flagstonelaw26_IdentityPaths: yours. -/
noncomputable def flagstonelaw26_IdentityPaths.Pure : Prop := ∀ (l0 : List Int) (a1 : Int) (a2 : Int), l0.length ≤ maxLen → l0.length * 1 ≤ 140737488351232 → (∀ x ∈ l0, (Lit.int .u8 x).wf = true) → (Lit.int .u8 a1).wf = true → (Lit.int .u8 a2).wf = true → ∃ k, flagstonelaw26_IdentityPaths.f k l0 a1 a2 = some true
theorem flagstonelaw26_IdentityPaths.walk (P : flagstonelaw26_IdentityPaths.Pure) (a0 : Option Addr) (len0 cap0 : Nat) (z0 : List Int) (a1 : Int) (a2 : Int) (w : World) (w0 : (a0 = none ∧ len0 = 0 ∧ cap0 = 0 ∧ z0 = []) ∨ ∃ x, a0 = some x ∧ len0 ≤ cap0 ∧ cap0 ≤ maxLen ∧ z0.length = cap0 ∧ (∀ i, i < z0.length → w.cell? (x.add i) = some (.int .u8 (z0.getD i 0))) ∧ ∀ n ∈ z0, (Lit.int .u8 n).wf = true) (y0 : len0 * 1 ≤ 140737488351232) (w1 : (Lit.int .u8 a1).wf = true) (w2 : (Lit.int .u8 a2).wf = true) :
    Calls Try.prog 4 #[.slice a0 len0 cap0, .int .u8 a1, .int .u8 a2] w fun e w' => e = .returned (.bool true) ∧ Below w.heap.size w w' := by
  obtain ⟨l0, rfl, hr0, hm0, hw0, hc0⟩ := ReadsInt.ofRowC w0
  obtain ⟨k, h⟩ := P l0 a1 a2 hm0 y0 hw0 w1 w2
  refine (flagstonelaw26_IdentityPaths.calls k _ _ l0 a1 a2 true w (Kd.C_of_reads (d := (0 : Int)) (h1 := fun _ => rfl) hr0) hc0 h).mono ?_
  rintro e w' ⟨rfl, hd⟩
  exact ⟨rfl, hd⟩

end Go.Proofs.Ytmhcpaohligjaaa.Q
