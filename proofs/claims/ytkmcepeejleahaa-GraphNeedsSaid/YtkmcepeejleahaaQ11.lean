-- laid by wip/tools/qprint.py, a program of this session, out of the translation: nothing here is trusted: Lean checks it
import Derived.Test.YtkmcepeejleahaaQ0
import Derived.Test.YtkmcepeejleahaaQ4
import Derived.Test.YtkmcepeejleahaaQ10
namespace Go.Proofs.Ytkmcepeejleahaa.Q
open Go.RowKit Go.Proofs.YtkmcepeejleahaaW.PrintWords Go.Proofs.YtkmcepeejleahaaW.PrintLast Go.Proofs.YtkmcepeejleahaaW.PrintMore
attribute [local go_sem] max2_int min2_int max_two min_two max_three min_three max_four min_four   -- for this text's walks alone
set_option linter.unusedVariables false
set_option linter.unusedSimpArgs false

/-! ### flagstoneref9_Needs: function 16 -/
mutual
noncomputable def flagstoneref9_Needs.l0 : Nat → List (S40) → List ByteArray → List ByteArray → Option (List ByteArray)
  | 0, _, _, _ => none
  | k + 1, x0, x5, x6 => if (x6.length : Int) > 0 then (if 0 < (x6.length : Int) then (if 1 ≤ (x6.length : Int) then (flagstoneref9_Needs.l1 k x0 x5 (x6.drop (1 : Int).toNat) (rdOf ByteArray.empty x6 0) 0) else (none)) else (none)) else (some x5)
noncomputable def flagstoneref9_Needs.l1 : Nat → List (S40) → List ByteArray → List ByteArray → ByteArray → Int → Option (List ByteArray)
  | 0, _, _, _, _, _ => none
  | k + 1, x0, x5, x6, x7, x8 => if x8 < (x0.length : Int) then (if 0 ≤ x8 then (if ((rd_T40 x0 x8).f0).toList = x7.toList then ((flagstoneref1_Has.f k x5 ((rd_T40 x0 x8).f1)).bind fun t279 => (if t279 = true then (flagstoneref9_Needs.l1 k x0 x5 x6 x7 (wrap64 (x8 + 1))) else ((flagstoneref1_Add.f k x5 ((rd_T40 x0 x8).f1)).bind fun t281 => (if ([] : List ByteArray).length + x6.length < 8796093022208 then ((some (([] : List ByteArray) ++ x6 : List ByteArray)).bind fun y284 => ((some (([(rd_T40 x0 x8).f1] : List ByteArray) : List ByteArray)).bind fun y288 => (if y284.length + y288.length < 8796093022208 then (flagstoneref9_Needs.l1 k x0 t281 (y284 ++ y288) x7 (wrap64 (x8 + 1))) else (none)))) else (none))))) else (flagstoneref9_Needs.l1 k x0 x5 x6 x7 (wrap64 (x8 + 1)))) else (none)) else (flagstoneref9_Needs.l0 k x0 x5 x6)
end
noncomputable def flagstoneref9_Needs.f (k : Nat) (l0 : List (S40)) (a1 : ByteArray) : Option (List ByteArray) := flagstoneref9_Needs.l0 k l0 ([] : List ByteArray) (([a1] : List ByteArray))
theorem flagstoneref9_Needs.mono_l : ∀ k, (∀ y0 y1 y2, LeO (flagstoneref9_Needs.l0 k y0 y1 y2) (flagstoneref9_Needs.l0 (k + 1) y0 y1 y2)) ∧ (∀ y0 y1 y2 y3 y4, LeO (flagstoneref9_Needs.l1 k y0 y1 y2 y3 y4) (flagstoneref9_Needs.l1 (k + 1) y0 y1 y2 y3 y4))
  | 0 => ⟨fun _ _ _ r h => by simp [flagstoneref9_Needs.l0] at h, fun _ _ _ _ _ r h => by simp [flagstoneref9_Needs.l1] at h⟩
  | k + 1 => by
    obtain ⟨ih0, ih1⟩ := flagstoneref9_Needs.mono_l k
    refine ⟨?_, ?_⟩
    · intro y0 y1 y2
      unfold flagstoneref9_Needs.l0
      repeat' first
      | (with_reducible exact ih0 _ _ _)
      | (with_reducible exact ih1 _ _ _ _ _)
      | (with_reducible exact flagstoneref1_Add.mono _ _ _)
      | (with_reducible exact flagstoneref1_Has.mono _ _ _)
      | (with_reducible exact LeO.refl _)
      | (with_reducible exact LeO.none _)
      | (with_reducible refine LeO.ite ?_ ?_)
      | (with_reducible refine LeO.bind ?_ (fun _ => ?_))
      | exact ih0 _ _ _
      | exact ih1 _ _ _ _ _
      | exact flagstoneref1_Add.mono _ _ _
      | exact flagstoneref1_Has.mono _ _ _
      | exact LeO.none _
      | refine LeO.ite ?_ ?_
      | refine LeO.bind ?_ (fun _ => ?_)
    · intro y0 y1 y2 y3 y4
      unfold flagstoneref9_Needs.l1
      repeat' first
      | (with_reducible exact ih0 _ _ _)
      | (with_reducible exact ih1 _ _ _ _ _)
      | (with_reducible exact flagstoneref1_Add.mono _ _ _)
      | (with_reducible exact flagstoneref1_Has.mono _ _ _)
      | (with_reducible exact LeO.refl _)
      | (with_reducible exact LeO.none _)
      | (with_reducible refine LeO.ite ?_ ?_)
      | (with_reducible refine LeO.bind ?_ (fun _ => ?_))
      | exact ih0 _ _ _
      | exact ih1 _ _ _ _ _
      | exact flagstoneref1_Add.mono _ _ _
      | exact flagstoneref1_Has.mono _ _ _
      | exact LeO.none _
      | refine LeO.ite ?_ ?_
      | refine LeO.bind ?_ (fun _ => ?_)
theorem flagstoneref9_Needs.mono : ∀ a0 a1 k, LeO (flagstoneref9_Needs.f k a0 a1) (flagstoneref9_Needs.f (k + 1) a0 a1) := by
  intro a0 a1 k
  obtain ⟨ih0, ih1⟩ := flagstoneref9_Needs.mono_l k
  unfold flagstoneref9_Needs.f
  repeat' first
      | (with_reducible exact ih0 _ _ _)
      | (with_reducible exact ih1 _ _ _ _ _)
      | (with_reducible exact flagstoneref1_Add.mono _ _ _)
      | (with_reducible exact flagstoneref1_Has.mono _ _ _)
      | (with_reducible exact LeO.refl _)
      | (with_reducible exact LeO.none _)
      | (with_reducible refine LeO.ite ?_ ?_)
      | (with_reducible refine LeO.bind ?_ (fun _ => ?_))
      | exact ih0 _ _ _
      | exact ih1 _ _ _ _ _
      | exact flagstoneref1_Add.mono _ _ _
      | exact flagstoneref1_Has.mono _ _ _
      | exact LeO.none _
      | refine LeO.ite ?_ ?_
      | refine LeO.bind ?_ (fun _ => ?_)
noncomputable def flagstoneref9_Needs.T11 : Bool × List (List Nat × List Nat) := (true, [([], []), ([0], [0]), ([], []), ([], []), ([2, 3], [2, 3]), ([4], [4]), ([5], [5]), ([6], [6]), ([1, 7, 1], [1, 7]), ([8, 8, 0, 1, 2, 3, 4, 5, 6, 7, 8], [0, 8])])
noncomputable def flagstoneref9_Needs.B11 : List Nat := [0, 1, 0, 0, 12, 28, 60, 124, 255, 511]
theorem flagstoneref9_Needs.tab11 : rtab .any (opsOf Try.f16 11) = flagstoneref9_Needs.T11 := by kernel_rfl
theorem flagstoneref9_Needs.bits11 : waitsOk flagstoneref9_Needs.T11.2 flagstoneref9_Needs.B11 = true := by kernel_rfl
set_option maxHeartbeats 8000000 in
set_option maxRecDepth 100000 in
theorem flagstoneref9_Needs.calls (k : Nat) (A0 : Option Addr) (c0 : Nat) (l0 : List (S40)) (a1 : ByteArray) (r : List ByteArray) (w : World) (hr0 : Kd.C k40 w A0 l0.length l0) (hc0 : l0.length ≤ c0) (h : flagstoneref9_Needs.f k l0 a1 = some r) :
    Calls Try.prog 16 #[.slice A0 l0.length c0, .string a1] w fun e w' => ∃ v0_ : Value, e = .returned (v0_) ∧ Kd.R Kd.string 9 w' w.heap.size (fun _ => True) v0_ r ∧ Below w.heap.size w w' := by
  have HR0 := Aside0.mk hr0
  have HC0 := Aside0.mk hc0
  clear hr0 hc0
  have HB := Aside0.mk (Below.refl w.heap.size w)
  have H : (flagstoneref9_Needs.l0 k l0 ([] : List ByteArray) (([a1] : List ByteArray))) = some r := h
  clear h
  obtain ⟨y270, hy270⟩ : ∃ y_ : List ByteArray, y_ = (([a1] : List ByteArray)) := ⟨_, rfl⟩
  replace H : (flagstoneref9_Needs.l0 k l0 ([] : List ByteArray) y270) = some r := by first | (rw [hy270]; with_reducible exact H) | (have H2_ := (Option.bind_some _ _).symm.trans H; rw [hy270]; with_reducible exact H2_) | (have H2_ := (Option.bind_some _ _).symm.trans H; with_reducible exact H2_) | with_reducible exact H | (rw [hy270]; exact H) | exact H
  have Ny270 := Aside0.mk hy270
  clear hy270
  have H' := Aside0.mk H
  clear H
  go_enter Try.func16, Try.ntmps16
  go_wp2_with (first | ((with_reducible refine gate_dst (N := 10) rfl ?_); refine Kd.R_lit Kd.string _ 9 ?hg (N := 10) ?hd (xs := ([a1] : List ByteArray)) (inner := [.string a1]) (ok := fun _ => True) (okp := fun _ => True) ?hr ?hp (fun _ hk => hk) trivial (Below.refl _ _) (Nat.le_refl _) (by simp) ?_; (case hd => rfl); (case hg => rfl); (case hr => first | (go_simp; done) | (go_simp; rfl)); (case hp => exact (Reps.one (show Kd.M Kd.string _ _ _ a1 [.string a1] from rfl) (Reps.none _ _))); intro v271 w3 ho4 hb hg_ hnew_; clear hg_ hnew_; (first | rw [← Ny270.out] at ho4 | (simp only [Int.reduceToNat] at ho4; rw [← Ny270.out] at ho4)); have n0_ := Aside0.mk (Kd.R_lower ho4 (below_size (by repeat (first | (with_reducible first | exact HB.out | apply below_alloc | apply pw_below_drewN | apply below_drew1) | exact HB.out)))); have n1_ := Aside0.mk (below_step (by repeat (first | (with_reducible first | exact HB.out | apply below_alloc | apply pw_below_drewN | apply below_drew1) | exact HB.out)) hb); clear HB; have HO272 := n0_; have HB := n1_; clear n0_ n1_; clear hb ho4))
  go_loopg [5, 6] k (fun kq v5 v6 w' => ∃ (x5_1 : List ByteArray) (x6_1 : List ByteArray), Aside0 (flagstoneref9_Needs.l0 kq l0 x5_1 x6_1 = some r) ∧ Aside0 (kq ≤ k) ∧ Aside0 (Kd.R Kd.string 9 w' w.heap.size (fun k_ => some k_ ≠ (v6 : Value).ownBlock) v5 x5_1) ∧ Aside0 (Kd.Q Kd.string 9 w' w.heap.size (fun k_ => some k_ ≠ (v5 : Value).ownBlock) v6 x6_1) ∧ Aside0 (Below w.heap.size w w'))
  case atStart => exact ⟨(([] : List ByteArray)), (y270), H', ⟨Nat.le_refl _⟩, ⟨by first | exact Kd.R_nil _ _ _ _ _ | exact Kd.N_nil _ _ _ _ _ | exact Kd.V_nil _ _ _ _ _ | exact Kd.Q_nil _ _ _ _ _ | exact Kd.S_nil _ _ _ _ _⟩, ⟨Kd.Q_of_R (by (with_reducible repeat (first | apply Kd.R_alloc | apply Kd.R_drewN | apply Kd.R_drew)); exact Kd.R_mono HO272.out (fun _ hk => (by simp [Value.ownBlock])))⟩, ⟨by repeat (first | (with_reducible first | exact HB.out | apply below_alloc | apply pw_below_drewN | apply below_drew1) | exact HB.out)⟩⟩
  case round =>
    clear H'
    try clear c1
    try clear p2
    obtain ⟨x5_1, x6_1, HA, HK1, HO_5, HO_6, HB⟩ := hrel
    cases gk with
    | zero => exact absurd HA.out (by simp [flagstoneref9_Needs.l0])
    | succ k1 =>
      have H := HA.out
      clear HA
      simp only [flagstoneref9_Needs.l0] at H
      by_cases c5 : (x6_1.length : Int) > 0
      · rw [if_pos c5] at H
        have c5b0 : decide (0 < (x6_1.length : Int)) = true := decide_eq_true c5
        have c5b1 : decide (0 < x6_1.length) = true := decide_eq_true (by omega)
        clear c5
        by_cases c6 : 0 < (x6_1.length : Int)
        · rw [if_pos c6] at H
          have c6b0 : decide (0 < (x6_1.length : Int)) = true := decide_eq_true c6
          have c6b1 : decide (0 < x6_1.length) = true := decide_eq_true (by omega)
          clear c6
          by_cases c7 : 1 ≤ (x6_1.length : Int)
          · rw [if_pos c7] at H
            have c7b0 := eq_true c7
            have c7b1 : decide (1 ≤ (x6_1.length : Int)) = true := decide_eq_true c7
            clear c7
            obtain ⟨y274, hy274⟩ : ∃ y_ : List ByteArray, y_ = (x6_1.drop (1 : Int).toNat) := ⟨_, rfl⟩
            replace H : (flagstoneref9_Needs.l1 k1 l0 x5_1 y274 (rdOf ByteArray.empty x6_1 0) 0) = some r := by first | (rw [hy274]; with_reducible exact H) | (have H2_ := (Option.bind_some _ _).symm.trans H; rw [hy274]; with_reducible exact H2_) | (have H2_ := (Option.bind_some _ _).symm.trans H; with_reducible exact H2_) | with_reducible exact H | (rw [hy274]; exact H) | exact H
            have Ny274 := Aside0.mk hy274
            clear hy274
            have H' := Aside0.mk H
            clear H
            obtain ⟨Ao8, co8, eo8, _⟩ := Kd.Q_slice HO_6.out
            subst eo8
            have p273 : 0 ≤ (0 : Int) := (by omega)
            have q273 : 0 < (x6_1.length : Int) := of_decide_eq_true (by first | (with_reducible assumption) | assumption)
            obtain ⟨ad273, e273, hx273_0⟩ := Kd.at_string (Kd.Q_reads' HO_6.out).2.2 0 p273 q273
            cases e273
            have qi273 : (0 < x6_1.length) = True := eq_true (by omega)
            (try rw [show ((0 : Int)).toNat = 0 from rfl] at hx273_0)
            (try rw [Addr.add_zero'] at hx273_0)
            replace p273 := eq_true p273
            replace q273 := eq_true q273
            have q9 : (1 : Int) ≤ ((x6_1.length : Int) : Int) := of_decide_eq_true (by first | (with_reducible assumption) | assumption)
            obtain ⟨i09, hi09, _, hsz9, _⟩ := info_parts info9
            have hcut9 := cut_from (P := Try.prog) 23 9 .i64 Try.underlying23 hi09 1 hsz9 (some ad273) x6_1.length co8 1 (by omega) q9
            have hr9 := Kd.Q_drop (k := (1 : Int).toNat) HO_6.out (by omega)
            obtain ⟨A9, hA9⟩ : ∃ A1, A1 = (if co8 = (1 : Int).toNat then (some ad273) else ((some ad273) : Option Addr).map (·.add ((1 : Int).toNat * 1))) := ⟨_, rfl⟩
            obtain ⟨c9, hc9⟩ : ∃ c1, c1 = co8 - (1 : Int).toNat := ⟨_, rfl⟩
            have hy9 : y274.length = x6_1.length - (1 : Int).toNat := (by rw [Ny274.out, List.length_drop])
            rw [← Ny274.out] at hr9
            rw [← hy9, ← hA9, ← hc9] at hcut9
            replace hr9 : Kd.Q Kd.string 9 wr w.heap.size (fun k_ => some k_ ≠ (u5 : Value).ownBlock) (.slice A9 y274.length c9) y274 := (by rw [hA9, hc9, hy9]; exact hr9)
            have HE9 : Aside0 ((Value.slice A9 y274.length c9).ownBlock = (.slice (some ad273) x6_1.length co8 : Value).ownBlock) := ⟨by rw [hA9]; split <;> (cases ((some ad273) : Option Addr) <;> rfl)⟩
            clear hy9 hi09 hsz9 HO_6 hA9 hc9
            have HO276 := Aside0.mk hr9
            clear hr9
            replace q9 := eq_true q9
            have n_ := Aside0.mk (Kd.R_mono (ok' := fun k_ => some k_ ≠ (.slice A9 y274.length c9 : Value).ownBlock) HO_5.out (fun k_ hk => (by rw [HE9.out]; exact hk)))
            clear HO_5
            have HO_5 := n_
            clear n_
            go_wp2
            go_loopg [5, 6, 8] k1 (fun kq v5 v6 v8 w' => ∃ (x5_2 : List ByteArray) (x6_2 : List ByteArray) (x8_2 : Int), v8 = .int .i64 x8_2 ∧ Aside0 (flagstoneref9_Needs.l1 kq l0 x5_2 x6_2 (rdOf ByteArray.empty x6_1 0) x8_2 = some r) ∧ Aside0 (kq ≤ k1) ∧ Aside0 (Kd.R Kd.string 9 w' w.heap.size (fun k_ => some k_ ≠ (v6 : Value).ownBlock) v5 x5_2) ∧ Aside0 (Kd.Q Kd.string 9 w' w.heap.size (fun k_ => some k_ ≠ (v5 : Value).ownBlock) v6 x6_2) ∧ Aside0 (Below w.heap.size w w'))
            case atStart => exact ⟨(x5_1), (y274), (0), (by first | rfl | (simp; done) | (simp [*]; done)), H', ⟨Nat.le_refl _⟩, ⟨by (with_reducible repeat (first | apply Kd.R_alloc | apply Kd.R_drewN | apply Kd.R_drew)); exact HO_5.out⟩, ⟨by (with_reducible repeat (first | apply Kd.Q_alloc | apply Kd.Q_drewN | apply Kd.Q_drew)); exact HO276.out⟩, ⟨by repeat (first | (with_reducible first | exact HB.out | apply below_alloc | apply pw_below_drewN | apply below_drew1) | exact HB.out)⟩⟩
            case round =>
              clear H'
              try clear c1
              try clear p2
              try clear q2
              try clear hx2
              try clear qi2
              try clear c5
              try clear c5b0
              try clear c5b1
              try clear c6
              try clear c6b0
              try clear c6b1
              try clear c7
              try clear c7b0
              try clear c7b1
              try clear c9
              try clear q9
              try clear hx273_0
              try clear p2
              try clear p273
              try clear q273
              try clear q9
              obtain ⟨x5_2, x6_2, x8_2, rfl, HA, HK2, HO_5, HO_6, HB⟩ := hrel
              cases gk with
              | zero => exact absurd HA.out (by simp [flagstoneref9_Needs.l1])
              | succ k2 =>
                have H := HA.out
                clear HA
                simp only [flagstoneref9_Needs.l1] at H
                by_cases c10 : x8_2 < (l0.length : Int)
                · rw [if_pos c10] at H
                  have c10b0 : decide (x8_2 < (l0.length : Int)) = true := decide_eq_true c10
                  clear c10
                  by_cases c11 : 0 ≤ x8_2
                  · rw [if_pos c11] at H
                    have c11b0 : decide (0 ≤ x8_2) = true := decide_eq_true c11
                    clear c11
                    by_cases c12 : ((rd_T40 l0 x8_2).f0).toList = (rdOf ByteArray.empty x6_1 0).toList
                    · rw [if_pos c12] at H
                      have c12b0 : (((rd_T40 l0 x8_2).f0).toList == (rdOf ByteArray.empty x6_1 0).toList) = true := beq_iff_eq.mpr c12
                      have c12b1 : (((rd_T40 l0 x8_2).f0).toList != (rdOf ByteArray.empty x6_1 0).toList) = false := bne_eq_false_iff_eq.mpr c12
                      clear c12
                      replace H := Option.bind_eq_some_iff.mp H
                      obtain ⟨t279, A130, H⟩ := H
                      replace H : (if t279 = true then (flagstoneref9_Needs.l1 k2 l0 x5_2 x6_2 (rdOf ByteArray.empty x6_1 0) (wrap64 (x8_2 + 1))) else ((flagstoneref1_Add.f k2 x5_2 ((rd_T40 l0 x8_2).f1)).bind fun t281 => (if ([] : List ByteArray).length + x6_2.length < 8796093022208 then ((some (([] : List ByteArray) ++ x6_2 : List ByteArray)).bind fun y284 => ((some (([(rd_T40 l0 x8_2).f1] : List ByteArray) : List ByteArray)).bind fun y288 => (if y284.length + y288.length < 8796093022208 then (flagstoneref9_Needs.l1 k2 l0 t281 (y284 ++ y288) (rdOf ByteArray.empty x6_1 0) (wrap64 (x8_2 + 1))) else (none)))) else (none)))) = some r := H
                      have A13 := Aside0.mk A130
                      clear A130
                      by_cases c14 : t279 = true
                      · subst c14
                        have H1 : (flagstoneref9_Needs.l1 k2 l0 x5_2 x6_2 (rdOf ByteArray.empty x6_1 0) (wrap64 (x8_2 + 1))) = some r := by rw [if_pos rfl] at H; exact H
                        clear H
                        have H := H1
                        clear H1
                        have H' := Aside0.mk H
                        clear H
                        have p277 : 0 ≤ (x8_2 : Int) := of_decide_eq_true (by first | (with_reducible assumption) | assumption)
                        have q277 : x8_2 < (l0.length : Int) := of_decide_eq_true (by first | (with_reducible assumption) | assumption)
                        obtain ⟨ad277, e277, hx277_0, hx277_1⟩ := at_T40 HR0.out x8_2 p277 q277
                        cases e277
                        replace hx277_0 := (HB.out.cell (World.block_lt_of_cell? w _ hx277_0)).trans hx277_0
                        replace hx277_1 := (HB.out.cell (World.block_lt_of_cell? w _ hx277_1)).trans hx277_1
                        replace p277 := eq_true p277
                        replace q277 := eq_true q277
                        have p278 : 0 ≤ (x8_2 : Int) := of_decide_eq_true (by first | (with_reducible assumption) | assumption)
                        have q278 : x8_2 < (l0.length : Int) := of_decide_eq_true (by first | (with_reducible assumption) | assumption)
                        obtain ⟨ad278, e278, hx278_0, hx278_1⟩ := at_T40 HR0.out x8_2 p278 q278
                        obtain rfl : ad277 = ad278 := (by injection e278)
                        replace hx278_0 := (HB.out.cell (World.block_lt_of_cell? w _ hx278_0)).trans hx278_0
                        replace hx278_1 := (HB.out.cell (World.block_lt_of_cell? w _ hx278_1)).trans hx278_1
                        replace p278 := eq_true p278
                        replace q278 := eq_true q278
                        obtain ⟨Ao15, co15, eo15⟩ := Kd.R_slice HO_5.out
                        subst eo15
                        go_wp2_with (first | (go_at_call 13; (with_reducible refine (flagstoneref1_Has.calls k2 _ _ x5_2 ((rd_T40 l0 x8_2).f1) true _ ?side1 ?side2 A13.out).mono ?_); (case side1 => repeat (first | exact (Kd.R_reads' HO_5.out).2.2 | (with_reducible refine Kd.C_alloc ?_ _) | (with_reducible refine Kd.C_drewN ?_ _) | (with_reducible refine Kd.C_drew ?_))); (case side2 => exact (Kd.R_reads' HO_5.out).2.1); rintro e w' ⟨rfl, ⟨nd, rfl⟩⟩))
                        go_roundg k2
                        case measure => have := HK1.out; have := HK2.out; omega
                        case rel => exact ⟨(x5_2), (x6_2), (wrap64 (x8_2 + 1)), (by first | rfl | (simp; done) | (simp [*]; done)), H', ⟨by have := HK1.out; have := HK2.out; omega⟩, ⟨by (with_reducible repeat (first | apply Kd.R_alloc | apply Kd.R_drewN | apply Kd.R_drew)); exact HO_5.out⟩, ⟨by (with_reducible repeat (first | apply Kd.Q_alloc | apply Kd.Q_drewN | apply Kd.Q_drew)); exact HO_6.out⟩, ⟨by repeat (first | (with_reducible first | exact HB.out | apply below_alloc | apply pw_below_drewN | apply below_drew1) | exact HB.out)⟩⟩
                      · replace c14 := Bool.eq_false_iff.mpr c14
                        subst c14
                        have H1 : ((flagstoneref1_Add.f k2 x5_2 ((rd_T40 l0 x8_2).f1)).bind fun t281 => (if ([] : List ByteArray).length + x6_2.length < 8796093022208 then ((some (([] : List ByteArray) ++ x6_2 : List ByteArray)).bind fun y284 => ((some (([(rd_T40 l0 x8_2).f1] : List ByteArray) : List ByteArray)).bind fun y288 => (if y284.length + y288.length < 8796093022208 then (flagstoneref9_Needs.l1 k2 l0 t281 (y284 ++ y288) (rdOf ByteArray.empty x6_1 0) (wrap64 (x8_2 + 1))) else (none)))) else (none))) = some r := by rw [if_neg (show ¬ (false = true) by decide)] at H; exact H
                        clear H
                        have H := H1
                        clear H1
                        replace H := Option.bind_eq_some_iff.mp H
                        obtain ⟨t281, A160, H⟩ := H
                        replace H : (if ([] : List ByteArray).length + x6_2.length < 8796093022208 then ((some (([] : List ByteArray) ++ x6_2 : List ByteArray)).bind fun y284 => ((some (([(rd_T40 l0 x8_2).f1] : List ByteArray) : List ByteArray)).bind fun y288 => (if y284.length + y288.length < 8796093022208 then (flagstoneref9_Needs.l1 k2 l0 t281 (y284 ++ y288) (rdOf ByteArray.empty x6_1 0) (wrap64 (x8_2 + 1))) else (none)))) else (none)) = some r := H
                        have A16 := Aside0.mk A160
                        clear A160
                        by_cases c17 : ([] : List ByteArray).length + x6_2.length < 8796093022208
                        · rw [if_pos c17] at H
                          have LMc17 := Aside0.mk c17
                          clear c17
                          obtain ⟨y284, hy284⟩ : ∃ y_ : List ByteArray, y_ = (([] : List ByteArray) ++ x6_2) := ⟨_, rfl⟩
                          replace H : ((some (([(rd_T40 l0 x8_2).f1] : List ByteArray) : List ByteArray)).bind fun y288 => (if y284.length + y288.length < 8796093022208 then (flagstoneref9_Needs.l1 k2 l0 t281 (y284 ++ y288) (rdOf ByteArray.empty x6_1 0) (wrap64 (x8_2 + 1))) else (none))) = some r := by first | (rw [hy284]; with_reducible exact H) | (have H2_ := (Option.bind_some _ _).symm.trans H; rw [hy284]; with_reducible exact H2_) | (have H2_ := (Option.bind_some _ _).symm.trans H; with_reducible exact H2_) | with_reducible exact H | (rw [hy284]; exact H) | exact H
                          have Ny284 := Aside0.mk hy284
                          clear hy284
                          obtain ⟨y288, hy288⟩ : ∃ y_ : List ByteArray, y_ = (([(rd_T40 l0 x8_2).f1] : List ByteArray)) := ⟨_, rfl⟩
                          replace H : (if y284.length + y288.length < 8796093022208 then (flagstoneref9_Needs.l1 k2 l0 t281 (y284 ++ y288) (rdOf ByteArray.empty x6_1 0) (wrap64 (x8_2 + 1))) else (none)) = some r := by first | (rw [hy288]; with_reducible exact H) | (have H2_ := (Option.bind_some _ _).symm.trans H; rw [hy288]; with_reducible exact H2_) | (have H2_ := (Option.bind_some _ _).symm.trans H; with_reducible exact H2_) | with_reducible exact H | (rw [hy288]; exact H) | exact H
                          have Ny288 := Aside0.mk hy288
                          clear hy288
                          by_cases c18 : y284.length + y288.length < 8796093022208
                          · rw [if_pos c18] at H
                            have LMc18 := Aside0.mk c18
                            clear c18
                            obtain ⟨y291, hy291⟩ : ∃ y_ : List ByteArray, y_ = (y284 ++ y288) := ⟨_, rfl⟩
                            replace H : (flagstoneref9_Needs.l1 k2 l0 t281 y291 (rdOf ByteArray.empty x6_1 0) (wrap64 (x8_2 + 1))) = some r := by first | (rw [hy291]; with_reducible exact H) | (have H2_ := (Option.bind_some _ _).symm.trans H; rw [hy291]; with_reducible exact H2_) | (have H2_ := (Option.bind_some _ _).symm.trans H; with_reducible exact H2_) | with_reducible exact H | (rw [hy291]; exact H) | exact H
                            have Ny291 := Aside0.mk hy291
                            clear hy291
                            have H' := Aside0.mk H
                            clear H
                            have p277 : 0 ≤ (x8_2 : Int) := of_decide_eq_true (by first | (with_reducible assumption) | assumption)
                            have q277 : x8_2 < (l0.length : Int) := of_decide_eq_true (by first | (with_reducible assumption) | assumption)
                            obtain ⟨ad277, e277, hx277_0, hx277_1⟩ := at_T40 HR0.out x8_2 p277 q277
                            cases e277
                            replace hx277_0 := (HB.out.cell (World.block_lt_of_cell? w _ hx277_0)).trans hx277_0
                            replace hx277_1 := (HB.out.cell (World.block_lt_of_cell? w _ hx277_1)).trans hx277_1
                            replace p277 := eq_true p277
                            replace q277 := eq_true q277
                            have p278 : 0 ≤ (x8_2 : Int) := of_decide_eq_true (by first | (with_reducible assumption) | assumption)
                            have q278 : x8_2 < (l0.length : Int) := of_decide_eq_true (by first | (with_reducible assumption) | assumption)
                            obtain ⟨ad278, e278, hx278_0, hx278_1⟩ := at_T40 HR0.out x8_2 p278 q278
                            obtain rfl : ad277 = ad278 := (by injection e278)
                            replace hx278_0 := (HB.out.cell (World.block_lt_of_cell? w _ hx278_0)).trans hx278_0
                            replace hx278_1 := (HB.out.cell (World.block_lt_of_cell? w _ hx278_1)).trans hx278_1
                            replace p278 := eq_true p278
                            replace q278 := eq_true q278
                            obtain ⟨Ao19, co19, eo19⟩ := Kd.R_slice HO_5.out
                            subst eo19
                            try go_wp2_with (first | (go_at_call 13; (with_reducible refine (flagstoneref1_Has.calls k2 _ _ x5_2 ((rd_T40 l0 x8_2).f1) false _ ?side1 ?side2 A13.out).mono ?_); (case side1 => repeat (first | exact (Kd.R_reads' HO_5.out).2.2 | (with_reducible refine Kd.C_alloc ?_ _) | (with_reducible refine Kd.C_drewN ?_ _) | (with_reducible refine Kd.C_drew ?_))); (case side2 => exact (Kd.R_reads' HO_5.out).2.1); rintro e w' ⟨rfl, ⟨nd, rfl⟩⟩; have p280 : 0 ≤ (x8_2 : Int) := of_decide_eq_true (by first | (with_reducible assumption) | assumption); have q280 : x8_2 < (l0.length : Int) := of_decide_eq_true (by first | (with_reducible assumption) | assumption); obtain ⟨ad280, e280, hx280_0, hx280_1⟩ := at_T40 HR0.out x8_2 p280 q280; obtain rfl : ad277 = ad280 := (by injection e280); replace hx280_0 := (HB.out.cell (World.block_lt_of_cell? w _ hx280_0)).trans hx280_0; replace hx280_1 := (HB.out.cell (World.block_lt_of_cell? w _ hx280_1)).trans hx280_1; replace p280 := eq_true p280; replace q280 := eq_true q280) | ((with_reducible refine gate_callee (f := 36) rfl ?_); refine goesL_ (some 48) rfl rfl Try.func36 (by kernel_rfl) rfl #[.slice Ao19 x5_2.length co19, .string ((rd_T40 l0 x8_2).f1)] rfl (by (try simp only [List.map_toArray, List.map_cons, List.map_nil]); first | done | rfl | (simp only [List.length_drop, List.length_take]; rfl)) ?_; (with_reducible refine (flagstoneref1_Add.calls k2 (fun k_ => some k_ = (.slice Ao19 x5_2.length co19 : Value).ownBlock) (.slice Ao19 x5_2.length co19) x5_2 ((rd_T40 l0 x8_2).f1) t281 w _ ?side1 ?side2 A16.out).mono ?_); (case side1 => repeat (first | (with_reducible first | exact HB.out | apply below_alloc | apply pw_below_drewN | apply below_drew1) | exact HB.out)); (case side2 => exact Kd.R_tight rfl HO_5.out); rintro e w20 ⟨v282, rfl, ho0, hb, hkp⟩; refine ⟨_, rfl, ?_⟩; have n0_ := Aside0.mk (Kd.Q_mono (ok' := fun k_ => some k_ ≠ (v282 : Value).ownBlock) (Kd.Q_keptB (HO_6.out) hkp (fun k_ hk_ hs_ => (hk_) hs_)) (fun k_ hk_ => fun e_ => Or.elim (ho0.1 k_ e_.symm) (fun hs_ => hk_.2.1 hs_) (fun hn_ => Nat.not_le.2 hk_.2.2 hn_))); have n1_ := Aside0.mk (Kd.R_mono (ok' := fun k_ => some k_ ≠ (u6 : Value).ownBlock) ho0 (fun k_ hk_ => Or.elim hk_ (fun hs_ => fun e_ => (((HO_6.out).1 k_ e_.symm)) hs_) (fun hn_ => (Kd.fresh' (Kd.Q_lt (by (with_reducible repeat (first | apply Kd.Q_alloc | apply Kd.Q_drewN | apply Kd.Q_drew)); exact HO_6.out)) k_ hn_)))); have n2_ := Aside0.mk (hb); clear HO_6; clear HB; clear HO_5; have HO_6 := n0_; have HO283 := n1_; have HB := n2_; clear n0_ n1_ n2_; (try clear hb); (try clear hkp); (try clear ho0); obtain ⟨Ao21, co21, eo21, _⟩ := Kd.Q_slice HO_6.out; subst eo21))
                            have n0_ := Aside0.mk (Kd.Q_drew HO_6.out)
                            have n1_ := Aside0.mk (Kd.R_drew HO283.out)
                            have n2_ := Aside0.mk (below_drew1 HB.out)
                            clear HO_6
                            clear HO283
                            clear HB
                            have HO_6 := n0_
                            have HO283 := n1_
                            have HB := n2_
                            clear n0_ n1_ n2_
                            have p287 : 0 ≤ (x8_2 : Int) := of_decide_eq_true (by first | (with_reducible assumption) | assumption)
                            have q287 : x8_2 < (l0.length : Int) := of_decide_eq_true (by first | (with_reducible assumption) | assumption)
                            obtain ⟨ad287, e287, hx287_0, hx287_1⟩ := at_T40 HR0.out x8_2 p287 q287
                            have hw287_1 := hx287_1
                            have hw287_0 := hx287_0
                            obtain rfl : ad277 = ad287 := (by injection e287)
                            replace hx287_0 := (HB.out.cell (World.block_lt_of_cell? w _ hx287_0)).trans hx287_0
                            replace hx287_1 := (HB.out.cell (World.block_lt_of_cell? w _ hx287_1)).trans hx287_1
                            replace p287 := eq_true p287
                            replace q287 := eq_true q287
                            refine start_ (n := 10) (S := fun w' => w'.cell? (ad277.add ((x8_2).toNat * 2)) = some (.string ((rd_T40 l0 x8_2).f0)) ∧ w'.cell? ⟨(ad277.add ((x8_2).toNat * 2)).block, (ad277.add ((x8_2).toNat * 2)).off + 1, none⟩ = some (.string ((rd_T40 l0 x8_2).f1))) (ds := []) #[false, false, false, false, false, false, false, false, false, false] (by kernel_rfl) rfl rfl ⟨((HB.out.cell (World.block_lt_of_cell? w _ hw287_0)).trans hw287_0), ((HB.out.cell (World.block_lt_of_cell? w _ hw287_1)).trans hw287_1)⟩ (fun hHeld => ?_); refine with_tabW flagstoneref9_Needs.tab11 flagstoneref9_Needs.bits11 (fun HT_ HW_ => ?_)
                            generalize w20.drew = w22 at HO_6 HO283 HB hx287_0 hx287_1 hHeld ⊢
                            refine pure_ (i := 0) (N := some 49) (v := ?_) (a' := ?_) #[true, false, false, false, false, false, false, false, false, false] rfl rfl (any_of HT_.out (by kernel_rfl)) (fun _ _ _ h => h) (Or.inl ⟨by rfl, ?_⟩) ?_ ?_
                            rotate_left
                            · intro w'
                              go_simp
                              with_reducible rfl
                            rotate_left
                            · simp only [Act.put, List.setIfInBounds_toArray, List.set_cons_zero, List.set_cons_succ, i64_w, i32_w]
                              rfl
                            refine pure_ (i := 2) (N := some 51) (v := ?_) (a' := ?_) #[true, false, true, false, false, false, false, false, false, false] rfl rfl (any_of HT_.out (by kernel_rfl)) (fun _ _ _ h => h) (Or.inl ⟨by rfl, ?_⟩) ?_ ?_
                            rotate_left
                            · intro w'
                              go_simp
                              with_reducible rfl
                            rotate_left
                            · simp only [Act.put, List.setIfInBounds_toArray, List.set_cons_zero, List.set_cons_succ, i64_w, i32_w]
                              rfl
                            refine pure_ (i := 3) (N := some 52) (v := ?_) (a' := ?_) #[true, false, true, true, false, false, false, false, false, false] rfl rfl (any_of HT_.out (by kernel_rfl)) (fun _ _ _ h => h) (Or.inl ⟨by rfl, ?_⟩) ?_ ?_
                            rotate_left
                            · intro w'
                              go_simp
                              with_reducible rfl
                            rotate_left
                            · simp only [Act.put, List.setIfInBounds_toArray, List.set_cons_zero, List.set_cons_succ, i64_w, i32_w]
                              rfl
                            refine pure_ (i := 4) (N := some 53) (v := ?_) (a' := ?_) #[true, false, true, true, true, false, false, false, false, false] rfl rfl (any_of HT_.out (by kernel_rfl)) (fun _ _ _ h => h) (Or.inl ⟨by rfl, ?_⟩) ?_ ?_
                            rotate_left
                            · intro w'
                              go_simp
                              with_reducible rfl
                            rotate_left
                            · simp only [Act.put, List.setIfInBounds_toArray, List.set_cons_zero, List.set_cons_succ, i64_w, i32_w]
                              rfl
                            refine pure_ (i := 5) (N := some 54) (v := ?_) (a' := ?_) #[true, false, true, true, true, true, false, false, false, false] rfl rfl (any_of HT_.out (by kernel_rfl)) (fun _ _ _ h => h) (Or.inl ⟨by rfl, ?_⟩) ?_ ?_
                            rotate_left
                            · intro w'
                              go_simp
                              with_reducible rfl
                            rotate_left
                            · simp only [Act.put, List.setIfInBounds_toArray, List.set_cons_zero, List.set_cons_succ, i64_w, i32_w]
                              rfl
                            refine take_ (i := 6) (N := some 55) (v := ?_) (a' := ?_) #[true, false, true, true, true, true, true, false, false, false] rfl rfl (take_ofW HT_.out HW_.out (by kernel_rfl)) (fun _ _ _ h => h) (Or.inl ⟨by rfl, ?_⟩) hHeld ?_ ?_
                            rotate_left
                            · rintro w' ⟨s0, s1⟩
                              go_simp
                              with_reducible rfl
                            rotate_left
                            · simp only [Act.put, List.setIfInBounds_toArray, List.set_cons_zero, List.set_cons_succ, i64_w, i32_w]
                              rfl
                            refine join_ (σ := Value × Value) 2 #[true, true, true, true, true, true, true, true, false, false] (fun s_ => [(50, s_.1), (56, s_.2)]) (fun s_ w' => (w'.cell? (ad277.add ((x8_2).toNat * 2)) = some (.string ((rd_T40 l0 x8_2).f0)) ∧ w'.cell? ⟨(ad277.add ((x8_2).toNat * 2)).block, (ad277.add ((x8_2).toNat * 2)).off + 1, none⟩ = some (.string ((rd_T40 l0 x8_2).f1))) ∧ (Kd.R Kd.string 9 w' w.heap.size (fun k_ => some k_ ≠ (s_.1 : Value).ownBlock ∧ some k_ ≠ (s_.2 : Value).ownBlock ∧ some k_ ≠ (.slice Ao21 x6_2.length co21 : Value).ownBlock) v282 t281) ∧ (Kd.R Kd.string 9 w' w.heap.size (fun k_ => some k_ ≠ (v282 : Value).ownBlock ∧ some k_ ≠ (s_.2 : Value).ownBlock ∧ some k_ ≠ (.slice Ao21 x6_2.length co21 : Value).ownBlock) s_.1 y284) ∧ (Kd.R Kd.string 9 w' w.heap.size (fun k_ => some k_ ≠ (v282 : Value).ownBlock ∧ some k_ ≠ (s_.1 : Value).ownBlock ∧ some k_ ≠ (.slice Ao21 x6_2.length co21 : Value).ownBlock) s_.2 y288) ∧ (Kd.Q Kd.string 9 w' w.heap.size (fun k_ => some k_ ≠ (v282 : Value).ownBlock ∧ some k_ ≠ (s_.1 : Value).ownBlock ∧ some k_ ≠ (s_.2 : Value).ownBlock) (.slice Ao21 x6_2.length co21) x6_2) ∧ (Below w.heap.size w w')) ?_ ?_
                            rotate_left
                            · intro hCont
                              refine two_ (i := 1) (j := 7) (Ni := some 50) (Nj := some 56) #[true, true, true, true, true, true, true, false, false, false] #[true, false, true, true, true, true, true, true, false, false] rfl rfl rfl rfl (two_of HT_.out (by kernel_rfl)) (by decide) (by decide) (fun K hK => ?_) (fun K hK => ?_)
                              · skip
                                refine Kd.R_append_rows_step Kd.string (w0 := w) w.heap.size (by rfl) (.const (.slice none 0 0)) (.tmp 49) 23 9 (.string ⟨#[]⟩) 16 rfl Try.underlying23 info9 rfl (by decide) (by omega) (.slice none 0 0) ([] : List ByteArray) x6_2 _ _ _ (fun k_ => some k_ ≠ (.slice Ao21 x6_2.length co21 : Value).ownBlock ∧ some k_ ≠ (v282 : Value).ownBlock) (fun _ => False) rfl rfl ?aO ?aR (fun _ _ h => h) (fun _ h => h.elim) ?aF ?aB ?aS ?aL ?_
                                (case aR => repeat (first | exact (Kd.Q_reads' HO_6.out).2.2 | (with_reducible refine Kd.C_alloc ?_ _) | (with_reducible refine Kd.C_drewN ?_ _) | (with_reducible refine Kd.C_drew ?_)))
                                (case aB => exact (by repeat (first | (with_reducible first | exact HB.out | apply below_alloc | apply pw_below_drewN | apply below_drew1) | exact HB.out)))
                                (case aF => exact (fun k_ hk => ⟨Kd.fresh' (Kd.Q_lt (by (with_reducible repeat (first | apply Kd.Q_alloc | apply Kd.Q_drewN | apply Kd.Q_drew)); exact HO_6.out)) k_ hk, Kd.fresh' (Kd.R_lt (by (with_reducible repeat (first | apply Kd.R_alloc | apply Kd.R_drewN | apply Kd.R_drew)); exact HO283.out)) k_ hk⟩))
                                (case aO => exact ((Kd.R_nil _ _ _ _ (fun k_ => some k_ ≠ (.slice Ao21 x6_2.length co21 : Value).ownBlock ∧ some k_ ≠ (v282 : Value).ownBlock))))
                                (case aS => exact (below_size (by repeat (first | (with_reducible first | exact HB.out | apply below_alloc | apply pw_below_drewN | apply below_drew1) | exact HB.out))))
                                (case aL => have := LMc17.out; omega)
                                intro v285 w23 ho hb hg hat
                                rw [← Ny284.out] at ho
                                have n0_ := Aside0.mk (Kd.Q_after (Kd.Q_apart_nil (by (with_reducible repeat (first | apply Kd.Q_alloc | apply Kd.Q_drewN | apply Kd.Q_drew)); exact HO_6.out)) hg hat)
                                have n1_ := Aside0.mk (Kd.R_after (Kd.R_apart_nil (by (with_reducible repeat (first | apply Kd.R_alloc | apply Kd.R_drewN | apply Kd.R_drew)); exact HO283.out)) hg hat)
                                have n2_ := Aside0.mk (hb)
                                have n3_ := Aside0.mk (ho)
                                clear HO_6
                                clear HO283
                                clear HB
                                have HO_6 := n0_
                                have HO283 := n1_
                                have HB := n2_
                                have HO286 := n3_
                                clear n0_ n1_ n2_ n3_
                                clear ho hb hg hat
                                refine hK.out _ _ ⟨((HB.out.cell (World.block_lt_of_cell? w _ hw287_0)).trans hw287_0), ((HB.out.cell (World.block_lt_of_cell? w _ hw287_1)).trans hw287_1)⟩ (fun hHeld => ?_)
                                clear hK K
                                refine norm_ (a' := ?_) ?_ ?_
                                rotate_left
                                · show Act.put _ (some 50) _ = _
                                  simp only [Act.put, List.setIfInBounds_toArray, List.set_cons_zero, List.set_cons_succ, i64_w, i32_w]
                                  rfl
                                refine one_ (i := 7) (N := some 56) #[true, true, true, true, true, true, true, true, false, false] rfl rfl (one_of HT_.out (by kernel_rfl)) (by decide) (fun K hK => ?_)
                                refine Kd.R_lit_step Kd.string _ 9 ?hg (N := 56) ?hd (xs := ([(rd_T40 l0 x8_2).f1] : List ByteArray)) (inner := [.string ((rd_T40 l0 x8_2).f1)]) (ok := fun _ => True) (okp := fun _ => True) ?hr ?hp (fun _ hk => hk) trivial (Below.refl _ _) (Nat.le_refl _) (by simp) ?_; (case hd => rfl); (case hg => rfl); (case hr => first | (go_simp; done) | (go_simp; rfl)); (case hp => exact (Reps.one (show Kd.M Kd.string _ _ _ ((rd_T40 l0 x8_2).f1) [.string ((rd_T40 l0 x8_2).f1)] from rfl) (Reps.none _ _)))
                                intro v289 w24 ho25 hb hg_ hnew_
                                clear hg_ hnew_
                                (first | rw [← Ny288.out] at ho25 | (simp only [Int.reduceToNat] at ho25; rw [← Ny288.out] at ho25))
                                have n0_ := Aside0.mk (Kd.Q_elder' (by (with_reducible repeat (first | apply Kd.Q_alloc | apply Kd.Q_drewN | apply Kd.Q_drew)); exact HO_6.out) (Kd.R_base ho25) hb)
                                have n1_ := Aside0.mk (Kd.R_elder' (by (with_reducible repeat (first | apply Kd.R_alloc | apply Kd.R_drewN | apply Kd.R_drew)); exact HO283.out) (Kd.R_base ho25) hb)
                                have n2_ := Aside0.mk (Kd.R_elder' (by (with_reducible repeat (first | apply Kd.R_alloc | apply Kd.R_drewN | apply Kd.R_drew)); exact HO286.out) (Kd.R_base ho25) hb)
                                have n3_ := Aside0.mk (Kd.R_lower (Kd.R_new' (Kd.R_new' (Kd.R_new' ho25 (Kd.Q_lt (by (with_reducible repeat (first | apply Kd.Q_alloc | apply Kd.Q_drewN | apply Kd.Q_drew)); exact HO_6.out))) (Kd.R_lt (by (with_reducible repeat (first | apply Kd.R_alloc | apply Kd.R_drewN | apply Kd.R_drew)); exact HO283.out))) (Kd.R_lt (by (with_reducible repeat (first | apply Kd.R_alloc | apply Kd.R_drewN | apply Kd.R_drew)); exact HO286.out))) (below_size (by repeat (first | (with_reducible first | exact HB.out | apply below_alloc | apply pw_below_drewN | apply below_drew1) | exact HB.out))))
                                have n4_ := Aside0.mk (below_step (by repeat (first | (with_reducible first | exact HB.out | apply below_alloc | apply pw_below_drewN | apply below_drew1) | exact HB.out)) hb)
                                clear HO_6
                                clear HO283
                                clear HO286
                                clear HB
                                have HO_6 := n0_
                                have HO283 := n1_
                                have HO286 := n2_
                                have HO290 := n3_
                                have HB := n4_
                                clear n0_ n1_ n2_ n3_ n4_
                                clear hb ho25
                                refine hK.out _ _ ⟨((HB.out.cell (World.block_lt_of_cell? w _ hw287_0)).trans hw287_0), ((HB.out.cell (World.block_lt_of_cell? w _ hw287_1)).trans hw287_1)⟩ (fun hHeld => ?_)
                                clear hK K
                                refine norm_ (a' := ?_) ?_ ?_
                                rotate_left
                                · show Act.put _ (some 56) _ = _
                                  simp only [Act.put, List.setIfInBounds_toArray, List.set_cons_zero, List.set_cons_succ, i64_w, i32_w]
                                  rfl
                                exact norm_ (by simp only [putAll, Act.put, List.setIfInBounds_toArray, List.set_cons_zero, List.set_cons_succ]) (hCont (v285, v289) _ ⟨hHeld, (by (with_reducible repeat (first | apply Kd.R_alloc | apply Kd.R_drewN | apply Kd.R_drew)); exact Kd.R_mono HO283.out (fun _ hk => ⟨hk.1.2, ⟨hk.2, hk.1.1⟩⟩)), (by (with_reducible repeat (first | apply Kd.R_alloc | apply Kd.R_drewN | apply Kd.R_drew)); exact Kd.R_mono HO286.out (fun _ hk => ⟨hk.1.2, ⟨hk.2, hk.1.1⟩⟩)), (by (with_reducible repeat (first | apply Kd.R_alloc | apply Kd.R_drewN | apply Kd.R_drew)); exact Kd.R_mono HO290.out (fun _ hk => ⟨hk.1.2, ⟨hk.2, hk.1.1.2⟩⟩)), (by (with_reducible repeat (first | apply Kd.Q_alloc | apply Kd.Q_drewN | apply Kd.Q_drew)); exact Kd.Q_mono HO_6.out (fun _ hk => ⟨hk.1.1, ⟨hk.1.2, hk.2⟩⟩)), (by repeat (first | (with_reducible first | exact HB.out | apply below_alloc | apply pw_below_drewN | apply below_drew1) | exact HB.out))⟩)
                              · skip
                                refine Kd.R_lit_step Kd.string _ 9 ?hg (N := 56) ?hd (xs := ([(rd_T40 l0 x8_2).f1] : List ByteArray)) (inner := [.string ((rd_T40 l0 x8_2).f1)]) (ok := fun _ => True) (okp := fun _ => True) ?hr ?hp (fun _ hk => hk) trivial (Below.refl _ _) (Nat.le_refl _) (by simp) ?_; (case hd => rfl); (case hg => rfl); (case hr => first | (go_simp; done) | (go_simp; rfl)); (case hp => exact (Reps.one (show Kd.M Kd.string _ _ _ ((rd_T40 l0 x8_2).f1) [.string ((rd_T40 l0 x8_2).f1)] from rfl) (Reps.none _ _)))
                                intro v289 w23 ho24 hb hg_ hnew_
                                clear hg_ hnew_
                                (first | rw [← Ny288.out] at ho24 | (simp only [Int.reduceToNat] at ho24; rw [← Ny288.out] at ho24))
                                have n0_ := Aside0.mk (Kd.Q_elder' (by (with_reducible repeat (first | apply Kd.Q_alloc | apply Kd.Q_drewN | apply Kd.Q_drew)); exact HO_6.out) (Kd.R_base ho24) hb)
                                have n1_ := Aside0.mk (Kd.R_elder' (by (with_reducible repeat (first | apply Kd.R_alloc | apply Kd.R_drewN | apply Kd.R_drew)); exact HO283.out) (Kd.R_base ho24) hb)
                                have n2_ := Aside0.mk (Kd.R_lower (Kd.R_new' (Kd.R_new' ho24 (Kd.Q_lt (by (with_reducible repeat (first | apply Kd.Q_alloc | apply Kd.Q_drewN | apply Kd.Q_drew)); exact HO_6.out))) (Kd.R_lt (by (with_reducible repeat (first | apply Kd.R_alloc | apply Kd.R_drewN | apply Kd.R_drew)); exact HO283.out))) (below_size (by repeat (first | (with_reducible first | exact HB.out | apply below_alloc | apply pw_below_drewN | apply below_drew1) | exact HB.out))))
                                have n3_ := Aside0.mk (below_step (by repeat (first | (with_reducible first | exact HB.out | apply below_alloc | apply pw_below_drewN | apply below_drew1) | exact HB.out)) hb)
                                clear HO_6
                                clear HO283
                                clear HB
                                have HO_6 := n0_
                                have HO283 := n1_
                                have HO290 := n2_
                                have HB := n3_
                                clear n0_ n1_ n2_ n3_
                                clear hb ho24
                                refine hK.out _ _ ⟨((HB.out.cell (World.block_lt_of_cell? w _ hw287_0)).trans hw287_0), ((HB.out.cell (World.block_lt_of_cell? w _ hw287_1)).trans hw287_1)⟩ (fun hHeld => ?_)
                                clear hK K
                                refine norm_ (a' := ?_) ?_ ?_
                                rotate_left
                                · show Act.put _ (some 56) _ = _
                                  simp only [Act.put, List.setIfInBounds_toArray, List.set_cons_zero, List.set_cons_succ, i64_w, i32_w]
                                  rfl
                                refine one_ (i := 1) (N := some 50) #[true, true, true, true, true, true, true, true, false, false] rfl rfl (one_of HT_.out (by kernel_rfl)) (by decide) (fun K hK => ?_)
                                refine Kd.R_append_rows_step Kd.string (w0 := w) w.heap.size (by rfl) (.const (.slice none 0 0)) (.tmp 49) 23 9 (.string ⟨#[]⟩) 16 rfl Try.underlying23 info9 rfl (by decide) (by omega) (.slice none 0 0) ([] : List ByteArray) x6_2 _ _ _ (fun k_ => some k_ ≠ (.slice Ao21 x6_2.length co21 : Value).ownBlock ∧ some k_ ≠ (v282 : Value).ownBlock ∧ some k_ ≠ (v289 : Value).ownBlock) (fun _ => False) rfl rfl ?aO ?aR (fun _ _ h => h) (fun _ h => h.elim) ?aF ?aB ?aS ?aL ?_
                                (case aR => repeat (first | exact (Kd.Q_reads' HO_6.out).2.2 | (with_reducible refine Kd.C_alloc ?_ _) | (with_reducible refine Kd.C_drewN ?_ _) | (with_reducible refine Kd.C_drew ?_)))
                                (case aB => exact (by repeat (first | (with_reducible first | exact HB.out | apply below_alloc | apply pw_below_drewN | apply below_drew1) | exact HB.out)))
                                (case aF => exact (fun k_ hk => ⟨Kd.fresh' (Kd.Q_lt (by (with_reducible repeat (first | apply Kd.Q_alloc | apply Kd.Q_drewN | apply Kd.Q_drew)); exact HO_6.out)) k_ hk, Kd.fresh' (Kd.R_lt (by (with_reducible repeat (first | apply Kd.R_alloc | apply Kd.R_drewN | apply Kd.R_drew)); exact HO283.out)) k_ hk, Kd.fresh' (Kd.R_lt (by (with_reducible repeat (first | apply Kd.R_alloc | apply Kd.R_drewN | apply Kd.R_drew)); exact HO290.out)) k_ hk⟩))
                                (case aO => exact ((Kd.R_nil _ _ _ _ (fun k_ => some k_ ≠ (.slice Ao21 x6_2.length co21 : Value).ownBlock ∧ some k_ ≠ (v282 : Value).ownBlock ∧ some k_ ≠ (v289 : Value).ownBlock))))
                                (case aS => exact (below_size (by repeat (first | (with_reducible first | exact HB.out | apply below_alloc | apply pw_below_drewN | apply below_drew1) | exact HB.out))))
                                (case aL => have := LMc17.out; omega)
                                intro v285 w25 ho hb hg hat
                                rw [← Ny284.out] at ho
                                have n0_ := Aside0.mk (Kd.Q_after (Kd.Q_apart_nil (by (with_reducible repeat (first | apply Kd.Q_alloc | apply Kd.Q_drewN | apply Kd.Q_drew)); exact HO_6.out)) hg hat)
                                have n1_ := Aside0.mk (Kd.R_after (Kd.R_apart_nil (by (with_reducible repeat (first | apply Kd.R_alloc | apply Kd.R_drewN | apply Kd.R_drew)); exact HO283.out)) hg hat)
                                have n2_ := Aside0.mk (Kd.R_after (Kd.R_apart_nil (by (with_reducible repeat (first | apply Kd.R_alloc | apply Kd.R_drewN | apply Kd.R_drew)); exact HO290.out)) hg hat)
                                have n3_ := Aside0.mk (hb)
                                have n4_ := Aside0.mk (ho)
                                clear HO_6
                                clear HO283
                                clear HO290
                                clear HB
                                have HO_6 := n0_
                                have HO283 := n1_
                                have HO290 := n2_
                                have HB := n3_
                                have HO286 := n4_
                                clear n0_ n1_ n2_ n3_ n4_
                                clear ho hb hg hat
                                refine hK.out _ _ ⟨((HB.out.cell (World.block_lt_of_cell? w _ hw287_0)).trans hw287_0), ((HB.out.cell (World.block_lt_of_cell? w _ hw287_1)).trans hw287_1)⟩ (fun hHeld => ?_)
                                clear hK K
                                refine norm_ (a' := ?_) ?_ ?_
                                rotate_left
                                · show Act.put _ (some 50) _ = _
                                  simp only [Act.put, List.setIfInBounds_toArray, List.set_cons_zero, List.set_cons_succ, i64_w, i32_w]
                                  rfl
                                exact norm_ (by simp only [putAll, Act.put, List.setIfInBounds_toArray, List.set_cons_zero, List.set_cons_succ]) (hCont (v285, v289) _ ⟨hHeld, (by (with_reducible repeat (first | apply Kd.R_alloc | apply Kd.R_drewN | apply Kd.R_drew)); exact Kd.R_mono HO283.out (fun _ hk => ⟨hk.2, ⟨hk.1.2, hk.1.1⟩⟩)), (by (with_reducible repeat (first | apply Kd.R_alloc | apply Kd.R_drewN | apply Kd.R_drew)); exact Kd.R_mono HO286.out (fun _ hk => ⟨hk.2.1, ⟨hk.2.2, hk.1⟩⟩)), (by (with_reducible repeat (first | apply Kd.R_alloc | apply Kd.R_drewN | apply Kd.R_drew)); exact Kd.R_mono HO290.out (fun _ hk => ⟨hk.1.2, ⟨hk.2, hk.1.1.2⟩⟩)), (by (with_reducible repeat (first | apply Kd.Q_alloc | apply Kd.Q_drewN | apply Kd.Q_drew)); exact Kd.Q_mono HO_6.out (fun _ hk => ⟨hk.1.1, ⟨hk.2, hk.1.2⟩⟩)), (by repeat (first | (with_reducible first | exact HB.out | apply below_alloc | apply pw_below_drewN | apply below_drew1) | exact HB.out))⟩)
                            rintro ⟨v285, v289⟩ w26 ⟨hS_, h0_, h1_, h2_, h3_, h4_⟩
                            have n0_ : Aside0 (Kd.R Kd.string 9 w26 w.heap.size (fun k_ => some k_ ≠ (v285 : Value).ownBlock ∧ some k_ ≠ (v289 : Value).ownBlock ∧ some k_ ≠ (.slice Ao21 x6_2.length co21 : Value).ownBlock) v282 t281) := ⟨h0_⟩
                            have n1_ : Aside0 (Kd.R Kd.string 9 w26 w.heap.size (fun k_ => some k_ ≠ (v282 : Value).ownBlock ∧ some k_ ≠ (v289 : Value).ownBlock ∧ some k_ ≠ (.slice Ao21 x6_2.length co21 : Value).ownBlock) v285 y284) := ⟨h1_⟩
                            have n2_ : Aside0 (Kd.R Kd.string 9 w26 w.heap.size (fun k_ => some k_ ≠ (v282 : Value).ownBlock ∧ some k_ ≠ (v285 : Value).ownBlock ∧ some k_ ≠ (.slice Ao21 x6_2.length co21 : Value).ownBlock) v289 y288) := ⟨h2_⟩
                            have n3_ : Aside0 (Kd.Q Kd.string 9 w26 w.heap.size (fun k_ => some k_ ≠ (v282 : Value).ownBlock ∧ some k_ ≠ (v285 : Value).ownBlock ∧ some k_ ≠ (v289 : Value).ownBlock) (.slice Ao21 x6_2.length co21) x6_2) := ⟨h3_⟩
                            have n4_ : Aside0 (Below w.heap.size w w26) := ⟨h4_⟩
                            clear HO_6
                            clear HO283
                            clear HB
                            clear h0_ h1_ h2_ h3_ h4_
                            have HO283 := n0_
                            have HO286 := n1_
                            have HO290 := n2_
                            have HO_6 := n3_
                            have HB := n4_
                            clear n0_ n1_ n2_ n3_ n4_
                            have hHeld : w26.cell? (ad277.add ((x8_2).toNat * 2)) = some (.string ((rd_T40 l0 x8_2).f0)) ∧ w26.cell? ⟨(ad277.add ((x8_2).toNat * 2)).block, (ad277.add ((x8_2).toNat * 2)).off + 1, none⟩ = some (.string ((rd_T40 l0 x8_2).f1)) := hS_
                            obtain ⟨Ao28, co28, eo28⟩ := Kd.R_slice HO290.out
                            (first | subst eo28 | (injection eo28 with f1_ f2_ f3_; have f4_ := f1_.symm; have f5_ := f3_.symm; clear f1_ f2_ f3_; subst f4_; subst f5_))
                            refine norm_ (a' := ?_) ?_ ?_
                            rotate_left
                            · simp only [putAll, Act.put, List.setIfInBounds_toArray, List.set_cons_zero, List.set_cons_succ]
                              rfl
                            refine one_ (i := 8) (N := some 57) #[true, true, true, true, true, true, true, true, true, false] rfl rfl (one_of HT_.out (by kernel_rfl)) (by decide) (fun K hK => ?_)
                            refine Kd.R_append_rows_step Kd.string (w0 := w) w.heap.size (by rfl) (.tmp 50) (.tmp 56) 23 9 (.string ⟨#[]⟩) 16 rfl Try.underlying23 info9 rfl (by decide) (by omega) v285 y284 y288 _ _ _ (fun k_ => some k_ ≠ (.slice Ao21 x6_2.length co21 : Value).ownBlock ∧ some k_ ≠ (v282 : Value).ownBlock ∧ some k_ ≠ (.slice Ao28 y288.length co28 : Value).ownBlock) (fun _ => False) rfl rfl ?aO ?aR (fun _ _ h => h) (fun _ h => h.elim) ?aF ?aB ?aS ?aL ?_
                            (case aR => repeat (first | exact (Kd.R_reads' HO290.out).2.2 | (with_reducible refine Kd.C_alloc ?_ _) | (with_reducible refine Kd.C_drewN ?_ _) | (with_reducible refine Kd.C_drew ?_)))
                            (case aB => exact (by repeat (first | (with_reducible first | exact HB.out | apply below_alloc | apply pw_below_drewN | apply below_drew1) | exact HB.out)))
                            (case aF => exact (fun k_ hk => ⟨Kd.fresh' (Kd.Q_lt (by (with_reducible repeat (first | apply Kd.Q_alloc | apply Kd.Q_drewN | apply Kd.Q_drew)); exact HO_6.out)) k_ hk, Kd.fresh' (Kd.R_lt (by (with_reducible repeat (first | apply Kd.R_alloc | apply Kd.R_drewN | apply Kd.R_drew)); exact HO283.out)) k_ hk, Kd.fresh' (Kd.R_lt (by (with_reducible repeat (first | apply Kd.R_alloc | apply Kd.R_drewN | apply Kd.R_drew)); exact HO290.out)) k_ hk⟩))
                            (case aO => exact (by (with_reducible repeat (first | apply Kd.R_alloc | apply Kd.R_drewN | apply Kd.R_drew)); exact Kd.R_mono HO286.out (fun _ hk => ⟨hk.2.2, ⟨hk.1, hk.2.1⟩⟩)))
                            (case aS => exact (below_size (by repeat (first | (with_reducible first | exact HB.out | apply below_alloc | apply pw_below_drewN | apply below_drew1) | exact HB.out))))
                            (case aL => have := LMc18.out; omega)
                            intro v292 w27 ho hb hg hat
                            rw [← Ny291.out] at ho
                            have n0_ := Aside0.mk (Kd.Q_after (ok := (fun k_ => some k_ ≠ (v282 : Value).ownBlock ∧ some k_ ≠ (.slice Ao28 y288.length co28 : Value).ownBlock)) (by (with_reducible repeat (first | apply Kd.Q_alloc | apply Kd.Q_drewN | apply Kd.Q_drew)); exact Kd.Q_mono HO_6.out (fun _ hk => ⟨⟨hk.1, hk.2.2⟩, hk.2.1⟩)) hg hat)
                            have n1_ := Aside0.mk (Kd.R_after (ok := (fun k_ => some k_ ≠ (.slice Ao21 x6_2.length co21 : Value).ownBlock ∧ some k_ ≠ (.slice Ao28 y288.length co28 : Value).ownBlock)) (by (with_reducible repeat (first | apply Kd.R_alloc | apply Kd.R_drewN | apply Kd.R_drew)); exact Kd.R_mono HO283.out (fun _ hk => ⟨⟨hk.2.2, hk.2.1⟩, hk.1⟩)) hg hat)
                            have n2_ := Aside0.mk (Kd.R_after (ok := (fun k_ => some k_ ≠ (.slice Ao21 x6_2.length co21 : Value).ownBlock ∧ some k_ ≠ (v282 : Value).ownBlock)) (by (with_reducible repeat (first | apply Kd.R_alloc | apply Kd.R_drewN | apply Kd.R_drew)); exact Kd.R_mono HO290.out (fun _ hk => ⟨⟨hk.2.2, hk.1⟩, hk.2.1⟩)) hg hat)
                            have n3_ := Aside0.mk (hb)
                            have n4_ := Aside0.mk (ho)
                            clear HO_6
                            clear HO283
                            clear HO290
                            clear HB
                            clear HO286
                            have HO_6 := n0_
                            have HO283 := n1_
                            have HO290 := n2_
                            have HB := n3_
                            have HO293 := n4_
                            clear n0_ n1_ n2_ n3_ n4_
                            clear ho hb hg hat
                            refine hK.out _ _ ⟨((HB.out.cell (World.block_lt_of_cell? w _ hw287_0)).trans hw287_0), ((HB.out.cell (World.block_lt_of_cell? w _ hw287_1)).trans hw287_1)⟩ (fun hHeld => ?_)
                            clear hK K
                            refine norm_ (a' := ?_) ?_ ?_
                            rotate_left
                            · show Act.put _ (some 57) _ = _
                              simp only [Act.put, List.setIfInBounds_toArray, List.set_cons_zero, List.set_cons_succ, i64_w, i32_w]
                              rfl
                            refine pure_ (i := 9) (N := some 6) (v := ?_) (a' := ?_) #[true, true, true, true, true, true, true, true, true, true] rfl rfl (any_of HT_.out (by kernel_rfl)) (fun _ _ _ h => h) (Or.inl ⟨by rfl, ?_⟩) ?_ ?_
                            rotate_left
                            · intro w'
                              go_simp
                              with_reducible rfl
                            rotate_left
                            · simp only [Act.put, List.setIfInBounds_toArray, List.set_cons_zero, List.set_cons_succ, i64_w, i32_w]
                              rfl
                            refine done_ (done_of HT_.out (by kernel_rfl)) ?_
                            try go_wp2
                            go_roundg k2
                            case measure => have := HK1.out; have := HK2.out; omega
                            case rel => exact ⟨(t281), (y291), (wrap64 (x8_2 + 1)), (by first | rfl | (simp; done) | (simp [*]; done)), H', ⟨by have := HK1.out; have := HK2.out; omega⟩, ⟨by (with_reducible repeat (first | apply Kd.R_alloc | apply Kd.R_drewN | apply Kd.R_drew)); exact Kd.R_mono HO283.out (fun _ hk => hk.2)⟩, ⟨Kd.Q_of_R (by (with_reducible repeat (first | apply Kd.R_alloc | apply Kd.R_drewN | apply Kd.R_drew)); exact Kd.R_mono HO293.out (fun _ hk => hk.2.1))⟩, ⟨by repeat (first | (with_reducible first | exact HB.out | apply below_alloc | apply pw_below_drewN | apply below_drew1) | exact HB.out)⟩⟩
                          · rw [if_neg c18] at H
                            exact absurd H (by simp)
                        · rw [if_neg c17] at H
                          exact absurd H (by simp)
                    · rw [if_neg c12] at H
                      have c12b0 : (((rd_T40 l0 x8_2).f0).toList == (rdOf ByteArray.empty x6_1 0).toList) = false := beq_eq_false_iff_ne.mpr c12
                      have c12b1 : (((rd_T40 l0 x8_2).f0).toList != (rdOf ByteArray.empty x6_1 0).toList) = true := bne_iff_ne.mpr c12
                      have H' := Aside0.mk H
                      clear H
                      have p277 : 0 ≤ (x8_2 : Int) := of_decide_eq_true (by first | (with_reducible assumption) | assumption)
                      have q277 : x8_2 < (l0.length : Int) := of_decide_eq_true (by first | (with_reducible assumption) | assumption)
                      obtain ⟨ad277, e277, hx277_0, hx277_1⟩ := at_T40 HR0.out x8_2 p277 q277
                      cases e277
                      replace hx277_0 := (HB.out.cell (World.block_lt_of_cell? w _ hx277_0)).trans hx277_0
                      replace hx277_1 := (HB.out.cell (World.block_lt_of_cell? w _ hx277_1)).trans hx277_1
                      replace p277 := eq_true p277
                      replace q277 := eq_true q277
                      go_wp2
                      go_roundg k2
                      case measure => have := HK1.out; have := HK2.out; omega
                      case rel => exact ⟨(x5_2), (x6_2), (wrap64 (x8_2 + 1)), (by first | rfl | (simp; done) | (simp [*]; done)), H', ⟨by have := HK1.out; have := HK2.out; omega⟩, ⟨by (with_reducible repeat (first | apply Kd.R_alloc | apply Kd.R_drewN | apply Kd.R_drew)); exact HO_5.out⟩, ⟨by (with_reducible repeat (first | apply Kd.Q_alloc | apply Kd.Q_drewN | apply Kd.Q_drew)); exact HO_6.out⟩, ⟨by repeat (first | (with_reducible first | exact HB.out | apply below_alloc | apply pw_below_drewN | apply below_drew1) | exact HB.out)⟩⟩
                  · rw [if_neg c11] at H
                    exact absurd H (by simp)
                · rw [if_neg c10] at H
                  have c10b0 : decide (x8_2 < (l0.length : Int)) = false := decide_eq_false c10
                  clear c10
                  have H' := Aside0.mk H
                  clear H
                  go_wp2
                  go_roundg k2
                  case measure => have := HK1.out; have := HK2.out; omega
                  case rel => exact ⟨(x5_2), (x6_2), H', ⟨by have := HK1.out; have := HK2.out; omega⟩, ⟨by (with_reducible repeat (first | apply Kd.R_alloc | apply Kd.R_drewN | apply Kd.R_drew)); exact HO_5.out⟩, ⟨by (with_reducible repeat (first | apply Kd.Q_alloc | apply Kd.Q_drewN | apply Kd.Q_drew)); exact HO_6.out⟩, ⟨by repeat (first | (with_reducible first | exact HB.out | apply below_alloc | apply pw_below_drewN | apply below_drew1) | exact HB.out)⟩⟩
          · rw [if_neg c7] at H
            exact absurd H (by simp)
        · rw [if_neg c6] at H
          exact absurd H (by simp)
      · rw [if_neg c5] at H
        have c5b0 : decide (0 < (x6_1.length : Int)) = false := decide_eq_false c5
        have c5b1 : decide (0 < x6_1.length) = false := decide_eq_false (by omega)
        clear c5
        obtain rfl := Option.some.inj H
        obtain ⟨Ao29, co29, eo29, _⟩ := Kd.Q_slice HO_6.out
        subst eo29
        go_wp2
        go_ret
        exact ⟨_, by first | rfl | (simp [errW_none, errW_some] <;> rfl) | (simp [*, errW_none, errW_some] <;> rfl), by (with_reducible repeat (first | apply Kd.R_alloc | apply Kd.R_drewN | apply Kd.R_drew)); exact Kd.R_mono HO_5.out (fun _ hk => trivial), by repeat (first | (with_reducible first | exact HB.out | apply below_alloc | apply pw_below_drewN | apply below_drew1) | exact HB.out)⟩

end Go.Proofs.Ytkmcepeejleahaa.Q
