-- laid by wip/tools/qprint.py, a program of this session, out of the translation: nothing here is trusted: Lean checks it
import Derived.Test.YtkmcepeejleahaaQ0
import Derived.Test.YtkmcepeejleahaaQ1
import Derived.Test.YtkmcepeejleahaaQ3
import Derived.Test.YtkmcepeejleahaaQ4
import Derived.Test.YtkmcepeejleahaaHD
import Derived.Test.YtkmcepeejleahaaHN
import Derived.Test.YtkmcepeejleahaaHO
namespace Go.Proofs.Ytkmcepeejleahaa.Q
open Go.RowKit Go.Proofs.YtkmcepeejleahaaW.PrintWords Go.Proofs.YtkmcepeejleahaaW.PrintLast Go.Proofs.YtkmcepeejleahaaW.PrintMore
attribute [local go_sem] max2_int min2_int max_two min_two max_three min_three max_four min_four   -- for this text's walks alone
set_option linter.unusedVariables false
set_option linter.unusedSimpArgs false

/-! ### flagstonelaw10_GraphAfter: function 4 -/
mutual
noncomputable def flagstonelaw10_GraphAfter.j0 : Nat → List ByteArray → List (S40) → List ByteArray → Bool → Option (Bool)
  | 0, _, _, _, _ => none
  | k + 1, x7, x8, x9, x36 => if x36 = true then (none) else (flagstonelaw10_GraphAfter.l0 k x7 x8 x9 0)
noncomputable def flagstonelaw10_GraphAfter.l0 : Nat → List ByteArray → List (S40) → List ByteArray → Int → Option (Bool)
  | 0, _, _, _, _ => none
  | k + 1, x7, x8, x9, x11 => if x11 < (x9.length : Int) then (if 0 ≤ x11 then ((flagstoneref1_Has.f k x7 (rdOf ByteArray.empty x9 x11)).bind fun t154 => (if t154 = true then (if x11 ≤ (x9.length : Int) then ((flagstoneref1_Has.f k (x9.take (x11 : Int).toNat) (rdOf ByteArray.empty x9 x11)).bind fun t160 => (flagstonelaw10_GraphAfter.j2 k x7 x8 x9 x11 t160)) else (none)) else (flagstonelaw10_GraphAfter.j2 k x7 x8 x9 x11 true))) else (none)) else (some true)
noncomputable def flagstonelaw10_GraphAfter.j2 : Nat → List ByteArray → List (S40) → List ByteArray → Int → Bool → Option (Bool)
  | 0, _, _, _, _, _ => none
  | k + 1, x7, x8, x9, x11, x59 => if x59 = true then (none) else (if 0 ≤ x11 then (if x11 < (x9.length : Int) then ((graph_Needs.f x8 (rdOf ByteArray.empty x9 x11)).bind fun t162 => (flagstonelaw10_GraphAfter.l1 k x7 x8 x9 x11 t162 0)) else (none)) else (none))
noncomputable def flagstonelaw10_GraphAfter.l1 : Nat → List ByteArray → List (S40) → List ByteArray → Int → List ByteArray → Int → Option (Bool)
  | 0, _, _, _, _, _, _ => none
  | k + 1, x7, x8, x9, x11, x12, x13 => if x13 < (x12.length : Int) then (if 0 ≤ x11 then (if x11 ≤ (x9.length : Int) then (if 0 ≤ x13 then ((flagstoneref1_Has.f k (x9.take (x11 : Int).toNat) (rdOf ByteArray.empty x12 x13)).bind fun t170 => (if t170 = true then (flagstonelaw10_GraphAfter.l1 k x7 x8 x9 x11 x12 (wrap64 (x13 + 1))) else (none))) else (none)) else (none)) else (none)) else (flagstonelaw10_GraphAfter.l0 k x7 x8 x9 (wrap64 (x11 + 1)))
end
noncomputable def flagstonelaw10_GraphAfter.f (k : Nat) (a0 : Int) (a1 : Int) (l2 : List Int) : Option (Bool) := (flagstonelaw10_awake.f k).bind fun t142 => (if t142 = true then ((flagstonelaw10_nodes.f a0 a1).bind fun t143 => ((flagstonelaw10_edges.f k t143 l2 false).bind fun t146 => ((graph_Order.f t143 t146).bind fun bt149 => (if bt149.2 = 0 then (flagstonelaw10_GraphAfter.j0 k t143 t146 bt149.1 ((bt149.1.length : Int) != (t143.length : Int))) else (flagstonelaw10_GraphAfter.j0 k t143 t146 bt149.1 true))))) else (none))
theorem flagstonelaw10_GraphAfter.mono_l : ∀ k, (∀ y0 y1 y2 y3, LeO (flagstonelaw10_GraphAfter.j0 k y0 y1 y2 y3) (flagstonelaw10_GraphAfter.j0 (k + 1) y0 y1 y2 y3)) ∧ (∀ y0 y1 y2 y3, LeO (flagstonelaw10_GraphAfter.l0 k y0 y1 y2 y3) (flagstonelaw10_GraphAfter.l0 (k + 1) y0 y1 y2 y3)) ∧ (∀ y0 y1 y2 y3 y4, LeO (flagstonelaw10_GraphAfter.j2 k y0 y1 y2 y3 y4) (flagstonelaw10_GraphAfter.j2 (k + 1) y0 y1 y2 y3 y4)) ∧ (∀ y0 y1 y2 y3 y4 y5, LeO (flagstonelaw10_GraphAfter.l1 k y0 y1 y2 y3 y4 y5) (flagstonelaw10_GraphAfter.l1 (k + 1) y0 y1 y2 y3 y4 y5))
  | 0 => ⟨fun _ _ _ _ r h => by simp [flagstonelaw10_GraphAfter.j0] at h, fun _ _ _ _ r h => by simp [flagstonelaw10_GraphAfter.l0] at h, fun _ _ _ _ _ r h => by simp [flagstonelaw10_GraphAfter.j2] at h, fun _ _ _ _ _ _ r h => by simp [flagstonelaw10_GraphAfter.l1] at h⟩
  | k + 1 => by
    obtain ⟨ih0, ih1, ih2, ih3⟩ := flagstonelaw10_GraphAfter.mono_l k
    refine ⟨?_, ?_, ?_, ?_⟩
    · intro y0 y1 y2 y3
      unfold flagstonelaw10_GraphAfter.j0
      repeat' first
      | (with_reducible exact ih0 _ _ _ _)
      | (with_reducible exact ih1 _ _ _ _)
      | (with_reducible exact ih2 _ _ _ _ _)
      | (with_reducible exact ih3 _ _ _ _ _ _)
      | (with_reducible exact flagstonelaw10_awake.mono _)
      | (with_reducible exact flagstonelaw10_edges.mono _ _ _ _)
      | (with_reducible exact flagstoneref1_Has.mono _ _ _)
      | (with_reducible exact LeO.refl _)
      | (with_reducible exact LeO.none _)
      | (with_reducible refine LeO.ite ?_ ?_)
      | (with_reducible refine LeO.bind ?_ (fun _ => ?_))
      | exact ih0 _ _ _ _
      | exact ih1 _ _ _ _
      | exact ih2 _ _ _ _ _
      | exact ih3 _ _ _ _ _ _
      | exact flagstonelaw10_awake.mono _
      | exact flagstonelaw10_edges.mono _ _ _ _
      | exact flagstoneref1_Has.mono _ _ _
      | exact LeO.none _
      | refine LeO.ite ?_ ?_
      | refine LeO.bind ?_ (fun _ => ?_)
    · intro y0 y1 y2 y3
      unfold flagstonelaw10_GraphAfter.l0
      repeat' first
      | (with_reducible exact ih0 _ _ _ _)
      | (with_reducible exact ih1 _ _ _ _)
      | (with_reducible exact ih2 _ _ _ _ _)
      | (with_reducible exact ih3 _ _ _ _ _ _)
      | (with_reducible exact flagstonelaw10_awake.mono _)
      | (with_reducible exact flagstonelaw10_edges.mono _ _ _ _)
      | (with_reducible exact flagstoneref1_Has.mono _ _ _)
      | (with_reducible exact LeO.refl _)
      | (with_reducible exact LeO.none _)
      | (with_reducible refine LeO.ite ?_ ?_)
      | (with_reducible refine LeO.bind ?_ (fun _ => ?_))
      | exact ih0 _ _ _ _
      | exact ih1 _ _ _ _
      | exact ih2 _ _ _ _ _
      | exact ih3 _ _ _ _ _ _
      | exact flagstonelaw10_awake.mono _
      | exact flagstonelaw10_edges.mono _ _ _ _
      | exact flagstoneref1_Has.mono _ _ _
      | exact LeO.none _
      | refine LeO.ite ?_ ?_
      | refine LeO.bind ?_ (fun _ => ?_)
    · intro y0 y1 y2 y3 y4
      unfold flagstonelaw10_GraphAfter.j2
      repeat' first
      | (with_reducible exact ih0 _ _ _ _)
      | (with_reducible exact ih1 _ _ _ _)
      | (with_reducible exact ih2 _ _ _ _ _)
      | (with_reducible exact ih3 _ _ _ _ _ _)
      | (with_reducible exact flagstonelaw10_awake.mono _)
      | (with_reducible exact flagstonelaw10_edges.mono _ _ _ _)
      | (with_reducible exact flagstoneref1_Has.mono _ _ _)
      | (with_reducible exact LeO.refl _)
      | (with_reducible exact LeO.none _)
      | (with_reducible refine LeO.ite ?_ ?_)
      | (with_reducible refine LeO.bind ?_ (fun _ => ?_))
      | exact ih0 _ _ _ _
      | exact ih1 _ _ _ _
      | exact ih2 _ _ _ _ _
      | exact ih3 _ _ _ _ _ _
      | exact flagstonelaw10_awake.mono _
      | exact flagstonelaw10_edges.mono _ _ _ _
      | exact flagstoneref1_Has.mono _ _ _
      | exact LeO.none _
      | refine LeO.ite ?_ ?_
      | refine LeO.bind ?_ (fun _ => ?_)
    · intro y0 y1 y2 y3 y4 y5
      unfold flagstonelaw10_GraphAfter.l1
      repeat' first
      | (with_reducible exact ih0 _ _ _ _)
      | (with_reducible exact ih1 _ _ _ _)
      | (with_reducible exact ih2 _ _ _ _ _)
      | (with_reducible exact ih3 _ _ _ _ _ _)
      | (with_reducible exact flagstonelaw10_awake.mono _)
      | (with_reducible exact flagstonelaw10_edges.mono _ _ _ _)
      | (with_reducible exact flagstoneref1_Has.mono _ _ _)
      | (with_reducible exact LeO.refl _)
      | (with_reducible exact LeO.none _)
      | (with_reducible refine LeO.ite ?_ ?_)
      | (with_reducible refine LeO.bind ?_ (fun _ => ?_))
      | exact ih0 _ _ _ _
      | exact ih1 _ _ _ _
      | exact ih2 _ _ _ _ _
      | exact ih3 _ _ _ _ _ _
      | exact flagstonelaw10_awake.mono _
      | exact flagstonelaw10_edges.mono _ _ _ _
      | exact flagstoneref1_Has.mono _ _ _
      | exact LeO.none _
      | refine LeO.ite ?_ ?_
      | refine LeO.bind ?_ (fun _ => ?_)
theorem flagstonelaw10_GraphAfter.mono : ∀ a0 a1 a2 k, LeO (flagstonelaw10_GraphAfter.f k a0 a1 a2) (flagstonelaw10_GraphAfter.f (k + 1) a0 a1 a2) := by
  intro a0 a1 a2 k
  obtain ⟨ih0, ih1, ih2, ih3⟩ := flagstonelaw10_GraphAfter.mono_l k
  unfold flagstonelaw10_GraphAfter.f
  repeat' first
      | (with_reducible exact ih0 _ _ _ _)
      | (with_reducible exact ih1 _ _ _ _)
      | (with_reducible exact ih2 _ _ _ _ _)
      | (with_reducible exact ih3 _ _ _ _ _ _)
      | (with_reducible exact flagstonelaw10_awake.mono _)
      | (with_reducible exact flagstonelaw10_edges.mono _ _ _ _)
      | (with_reducible exact flagstoneref1_Has.mono _ _ _)
      | (with_reducible exact LeO.refl _)
      | (with_reducible exact LeO.none _)
      | (with_reducible refine LeO.ite ?_ ?_)
      | (with_reducible refine LeO.bind ?_ (fun _ => ?_))
      | exact ih0 _ _ _ _
      | exact ih1 _ _ _ _
      | exact ih2 _ _ _ _ _
      | exact ih3 _ _ _ _ _ _
      | exact flagstonelaw10_awake.mono _
      | exact flagstonelaw10_edges.mono _ _ _ _
      | exact flagstoneref1_Has.mono _ _ _
      | exact LeO.none _
      | refine LeO.ite ?_ ?_
      | refine LeO.bind ?_ (fun _ => ?_)
set_option maxHeartbeats 8000000 in
set_option maxRecDepth 100000 in
theorem flagstonelaw10_GraphAfter.calls (k : Nat) (a0 : Int) (a1 : Int) (A2 : Option Addr) (c2 : Nat) (l2 : List Int) (r : Bool) (w : World) (hr2 : Kd.C (Kd.int .u8) w A2 l2.length l2) (hc2 : l2.length ≤ c2) (h : flagstonelaw10_GraphAfter.f k a0 a1 l2 = some r) :
    Calls Try.prog 4 #[.int .i64 a0, .int .i64 a1, .slice A2 l2.length c2] w fun e w' => e = .returned (.bool r) ∧ Below w.heap.size w w' := by
  have HR2 := Aside0.mk hr2
  have HC2 := Aside0.mk hc2
  clear hr2 hc2
  have HB := Aside0.mk (Below.refl w.heap.size w)
  have H : ((flagstonelaw10_awake.f k).bind fun t142 => (if t142 = true then ((flagstonelaw10_nodes.f a0 a1).bind fun t143 => ((flagstonelaw10_edges.f k t143 l2 false).bind fun t146 => ((graph_Order.f t143 t146).bind fun bt149 => (if bt149.2 = 0 then (flagstonelaw10_GraphAfter.j0 k t143 t146 bt149.1 ((bt149.1.length : Int) != (t143.length : Int))) else (flagstonelaw10_GraphAfter.j0 k t143 t146 bt149.1 true))))) else (none))) = some r := h
  clear h
  replace H := Option.bind_eq_some_iff.mp H
  obtain ⟨t142, A40, H⟩ := H
  replace H : (if t142 = true then ((flagstonelaw10_nodes.f a0 a1).bind fun t143 => ((flagstonelaw10_edges.f k t143 l2 false).bind fun t146 => ((graph_Order.f t143 t146).bind fun bt149 => (if bt149.2 = 0 then (flagstonelaw10_GraphAfter.j0 k t143 t146 bt149.1 ((bt149.1.length : Int) != (t143.length : Int))) else (flagstonelaw10_GraphAfter.j0 k t143 t146 bt149.1 true))))) else (none)) = some r := H
  have A4 := Aside0.mk A40
  clear A40
  by_cases c5 : t142 = true
  · subst c5
    have H1 : ((flagstonelaw10_nodes.f a0 a1).bind fun t143 => ((flagstonelaw10_edges.f k t143 l2 false).bind fun t146 => ((graph_Order.f t143 t146).bind fun bt149 => (if bt149.2 = 0 then (flagstonelaw10_GraphAfter.j0 k t143 t146 bt149.1 ((bt149.1.length : Int) != (t143.length : Int))) else (flagstonelaw10_GraphAfter.j0 k t143 t146 bt149.1 true))))) = some r := by rw [if_pos rfl] at H; exact H
    clear H
    have H := H1
    clear H1
    replace H := Option.bind_eq_some_iff.mp H
    obtain ⟨t143, A60, H⟩ := H
    replace H : ((flagstonelaw10_edges.f k t143 l2 false).bind fun t146 => ((graph_Order.f t143 t146).bind fun bt149 => (if bt149.2 = 0 then (flagstonelaw10_GraphAfter.j0 k t143 t146 bt149.1 ((bt149.1.length : Int) != (t143.length : Int))) else (flagstonelaw10_GraphAfter.j0 k t143 t146 bt149.1 true)))) = some r := H
    have A6 := Aside0.mk A60
    clear A60
    replace H := Option.bind_eq_some_iff.mp H
    obtain ⟨t146, A70, H⟩ := H
    replace H : ((graph_Order.f t143 t146).bind fun bt149 => (if bt149.2 = 0 then (flagstonelaw10_GraphAfter.j0 k t143 t146 bt149.1 ((bt149.1.length : Int) != (t143.length : Int))) else (flagstonelaw10_GraphAfter.j0 k t143 t146 bt149.1 true))) = some r := H
    have A7 := Aside0.mk A70
    clear A70
    replace H := Option.bind_eq_some_iff.mp H
    obtain ⟨⟨t149, t150⟩, A80, H⟩ := H
    replace H : (if t150 = 0 then (flagstonelaw10_GraphAfter.j0 k t143 t146 t149 ((t149.length : Int) != (t143.length : Int))) else (flagstonelaw10_GraphAfter.j0 k t143 t146 t149 true)) = some r := H
    have A8 := Aside0.mk A80
    clear A80
    have HC9 := Aside0.mk H
    clear H
    go_enter Try.func4, Try.ntmps4
    go_upto_region 6 with (first | (go_at_call 7; (with_reducible refine (flagstonelaw10_awake.calls k  true _ A4.out).mono ?_); rintro e w10 ⟨rfl, hb⟩; have n0_ := Aside0.mk (below_step (by repeat (first | (with_reducible first | exact HB.out | apply below_alloc | apply pw_below_drewN | apply below_drew1) | exact HB.out)) hb); clear HB; have HB := n0_; clear n0_; (try clear hb); (try clear hb2); (try clear hk); (try clear hi)) | (go_at_call 8; (with_reducible refine (flagstonelaw10_nodes.calls a0 a1 t143 _ A6.out).mono ?_); rintro e w11 ⟨v144, rfl, ho0, hb⟩; have n0_ := Aside0.mk (Kd.R_lower ho0 (below_size (by repeat (first | (with_reducible first | exact HB.out | apply below_alloc | apply pw_below_drewN | apply below_drew1) | exact HB.out)))); have n1_ := Aside0.mk (below_step (by repeat (first | (with_reducible first | exact HB.out | apply below_alloc | apply pw_below_drewN | apply below_drew1) | exact HB.out)) hb); clear HB; have HO145 := n0_; have HB := n1_; clear n0_ n1_; (try clear hb); (try clear hb2); (try clear hk); (try clear hi); (try clear ho0); obtain ⟨Ao12, co12, eo12⟩ := Kd.R_slice HO145.out; subst eo12) | (go_at_call 9; (with_reducible refine (flagstonelaw10_edges.calls k _ _ t143 _ _ l2 false t146 _ ?side1 ?side2 ?side3 ?side4 A7.out).mono ?_); (case side1 => repeat (first | exact (Kd.R_reads' HO145.out).2.2 | (with_reducible refine Kd.C_alloc ?_ _) | (with_reducible refine Kd.C_drewN ?_ _) | (with_reducible refine Kd.C_drew ?_))); (case side2 => exact (Kd.R_reads' HO145.out).2.1); (case side3 => repeat (first | exact (Kd.C_below HR2.out HB.out) | (with_reducible refine Kd.C_alloc ?_ _) | (with_reducible refine Kd.C_drewN ?_ _) | (with_reducible refine Kd.C_drew ?_))); (case side4 => exact HC2.out); rintro e w13 ⟨v147, rfl, ho0, hb⟩; have n0_ := Aside0.mk (Kd.R_below (by (with_reducible repeat (first | apply Kd.R_alloc | apply Kd.R_drewN | apply Kd.R_drew)); exact HO145.out) hb); have n1_ := Aside0.mk (Kd.R_lower ho0 (below_size (by repeat (first | (with_reducible first | exact HB.out | apply below_alloc | apply pw_below_drewN | apply below_drew1) | exact HB.out)))); have n2_ := Aside0.mk (below_step (by repeat (first | (with_reducible first | exact HB.out | apply below_alloc | apply pw_below_drewN | apply below_drew1) | exact HB.out)) hb); clear HO145; clear HB; have HO145 := n0_; have HO148 := n1_; have HB := n2_; clear n0_ n1_ n2_; (try clear hb); (try clear hb2); (try clear hk); (try clear hi); (try clear ho0); obtain ⟨Ao14, co14, eo14⟩ := Kd.R_slice HO148.out; subst eo14) | (go_at_call 10; (with_reducible refine (graph_Order.calls _ _ t143 _ _ t146 t149 t150 _ ?side1 ?side2 ?side3 ?side4 A8.out).mono ?_); (case side1 => repeat (first | exact (Kd.R_reads' HO145.out).2.2 | (with_reducible refine Kd.C_alloc ?_ _) | (with_reducible refine Kd.C_drewN ?_ _) | (with_reducible refine Kd.C_drew ?_))); (case side2 => exact (Kd.R_reads' HO145.out).2.1); (case side3 => repeat (first | exact (Kd.R_reads' HO148.out).2.2 | (with_reducible refine Kd.C_alloc ?_ _) | (with_reducible refine Kd.C_drewN ?_ _) | (with_reducible refine Kd.C_drew ?_))); (case side4 => exact (Kd.R_reads' HO148.out).2.1); rintro e w15 ⟨v151, rfl, ho0, hb⟩; have n0_ := Aside0.mk (Kd.R_elder' (by (with_reducible repeat (first | apply Kd.R_alloc | apply Kd.R_drewN | apply Kd.R_drew)); exact HO145.out) (Kd.R_base ho0) hb); have n1_ := Aside0.mk (Kd.R_below (by (with_reducible repeat (first | apply Kd.R_alloc | apply Kd.R_drewN | apply Kd.R_drew)); exact HO148.out) hb); have n2_ := Aside0.mk (Kd.R_lower (Kd.R_new' ho0 (Kd.R_lt (by (with_reducible repeat (first | apply Kd.R_alloc | apply Kd.R_drewN | apply Kd.R_drew)); exact HO145.out))) (below_size (by repeat (first | (with_reducible first | exact HB.out | apply below_alloc | apply pw_below_drewN | apply below_drew1) | exact HB.out)))); have n3_ := Aside0.mk (below_step (by repeat (first | (with_reducible first | exact HB.out | apply below_alloc | apply pw_below_drewN | apply below_drew1) | exact HB.out)) hb); clear HO145; clear HO148; clear HB; have HO145 := n0_; have HO148 := n1_; have HO152 := n2_; have HB := n3_; clear n0_ n1_ n2_ n3_; (try clear hb); (try clear hb2); (try clear hk); (try clear hi); (try clear ho0)))
    repeat (go_quiet (first | (go_at_call 7; (with_reducible refine (flagstonelaw10_awake.calls k  true _ A4.out).mono ?_); rintro e w10 ⟨rfl, hb⟩; have n0_ := Aside0.mk (below_step (by repeat (first | (with_reducible first | exact HB.out | apply below_alloc | apply pw_below_drewN | apply below_drew1) | exact HB.out)) hb); clear HB; have HB := n0_; clear n0_; (try clear hb); (try clear hb2); (try clear hk); (try clear hi)) | (go_at_call 8; (with_reducible refine (flagstonelaw10_nodes.calls a0 a1 t143 _ A6.out).mono ?_); rintro e w11 ⟨v144, rfl, ho0, hb⟩; have n0_ := Aside0.mk (Kd.R_lower ho0 (below_size (by repeat (first | (with_reducible first | exact HB.out | apply below_alloc | apply pw_below_drewN | apply below_drew1) | exact HB.out)))); have n1_ := Aside0.mk (below_step (by repeat (first | (with_reducible first | exact HB.out | apply below_alloc | apply pw_below_drewN | apply below_drew1) | exact HB.out)) hb); clear HB; have HO145 := n0_; have HB := n1_; clear n0_ n1_; (try clear hb); (try clear hb2); (try clear hk); (try clear hi); (try clear ho0); obtain ⟨Ao12, co12, eo12⟩ := Kd.R_slice HO145.out; subst eo12) | (go_at_call 9; (with_reducible refine (flagstonelaw10_edges.calls k _ _ t143 _ _ l2 false t146 _ ?side1 ?side2 ?side3 ?side4 A7.out).mono ?_); (case side1 => repeat (first | exact (Kd.R_reads' HO145.out).2.2 | (with_reducible refine Kd.C_alloc ?_ _) | (with_reducible refine Kd.C_drewN ?_ _) | (with_reducible refine Kd.C_drew ?_))); (case side2 => exact (Kd.R_reads' HO145.out).2.1); (case side3 => repeat (first | exact (Kd.C_below HR2.out HB.out) | (with_reducible refine Kd.C_alloc ?_ _) | (with_reducible refine Kd.C_drewN ?_ _) | (with_reducible refine Kd.C_drew ?_))); (case side4 => exact HC2.out); rintro e w13 ⟨v147, rfl, ho0, hb⟩; have n0_ := Aside0.mk (Kd.R_below (by (with_reducible repeat (first | apply Kd.R_alloc | apply Kd.R_drewN | apply Kd.R_drew)); exact HO145.out) hb); have n1_ := Aside0.mk (Kd.R_lower ho0 (below_size (by repeat (first | (with_reducible first | exact HB.out | apply below_alloc | apply pw_below_drewN | apply below_drew1) | exact HB.out)))); have n2_ := Aside0.mk (below_step (by repeat (first | (with_reducible first | exact HB.out | apply below_alloc | apply pw_below_drewN | apply below_drew1) | exact HB.out)) hb); clear HO145; clear HB; have HO145 := n0_; have HO148 := n1_; have HB := n2_; clear n0_ n1_ n2_; (try clear hb); (try clear hb2); (try clear hk); (try clear hi); (try clear ho0); obtain ⟨Ao14, co14, eo14⟩ := Kd.R_slice HO148.out; subst eo14) | (go_at_call 10; (with_reducible refine (graph_Order.calls _ _ t143 _ _ t146 t149 t150 _ ?side1 ?side2 ?side3 ?side4 A8.out).mono ?_); (case side1 => repeat (first | exact (Kd.R_reads' HO145.out).2.2 | (with_reducible refine Kd.C_alloc ?_ _) | (with_reducible refine Kd.C_drewN ?_ _) | (with_reducible refine Kd.C_drew ?_))); (case side2 => exact (Kd.R_reads' HO145.out).2.1); (case side3 => repeat (first | exact (Kd.R_reads' HO148.out).2.2 | (with_reducible refine Kd.C_alloc ?_ _) | (with_reducible refine Kd.C_drewN ?_ _) | (with_reducible refine Kd.C_drew ?_))); (case side4 => exact (Kd.R_reads' HO148.out).2.1); rintro e w15 ⟨v151, rfl, ho0, hb⟩; have n0_ := Aside0.mk (Kd.R_elder' (by (with_reducible repeat (first | apply Kd.R_alloc | apply Kd.R_drewN | apply Kd.R_drew)); exact HO145.out) (Kd.R_base ho0) hb); have n1_ := Aside0.mk (Kd.R_below (by (with_reducible repeat (first | apply Kd.R_alloc | apply Kd.R_drewN | apply Kd.R_drew)); exact HO148.out) hb); have n2_ := Aside0.mk (Kd.R_lower (Kd.R_new' ho0 (Kd.R_lt (by (with_reducible repeat (first | apply Kd.R_alloc | apply Kd.R_drewN | apply Kd.R_drew)); exact HO145.out))) (below_size (by repeat (first | (with_reducible first | exact HB.out | apply below_alloc | apply pw_below_drewN | apply below_drew1) | exact HB.out)))); have n3_ := Aside0.mk (below_step (by repeat (first | (with_reducible first | exact HB.out | apply below_alloc | apply pw_below_drewN | apply below_drew1) | exact HB.out)) hb); clear HO145; clear HO148; clear HB; have HO145 := n0_; have HO148 := n1_; have HO152 := n2_; have HB := n3_; clear n0_ n1_ n2_ n3_; (try clear hb); (try clear hb2); (try clear hk); (try clear hi); (try clear ho0))); go_upto_region 6 with (first | (go_at_call 7; (with_reducible refine (flagstonelaw10_awake.calls k  true _ A4.out).mono ?_); rintro e w10 ⟨rfl, hb⟩; have n0_ := Aside0.mk (below_step (by repeat (first | (with_reducible first | exact HB.out | apply below_alloc | apply pw_below_drewN | apply below_drew1) | exact HB.out)) hb); clear HB; have HB := n0_; clear n0_; (try clear hb); (try clear hb2); (try clear hk); (try clear hi)) | (go_at_call 8; (with_reducible refine (flagstonelaw10_nodes.calls a0 a1 t143 _ A6.out).mono ?_); rintro e w11 ⟨v144, rfl, ho0, hb⟩; have n0_ := Aside0.mk (Kd.R_lower ho0 (below_size (by repeat (first | (with_reducible first | exact HB.out | apply below_alloc | apply pw_below_drewN | apply below_drew1) | exact HB.out)))); have n1_ := Aside0.mk (below_step (by repeat (first | (with_reducible first | exact HB.out | apply below_alloc | apply pw_below_drewN | apply below_drew1) | exact HB.out)) hb); clear HB; have HO145 := n0_; have HB := n1_; clear n0_ n1_; (try clear hb); (try clear hb2); (try clear hk); (try clear hi); (try clear ho0); obtain ⟨Ao12, co12, eo12⟩ := Kd.R_slice HO145.out; subst eo12) | (go_at_call 9; (with_reducible refine (flagstonelaw10_edges.calls k _ _ t143 _ _ l2 false t146 _ ?side1 ?side2 ?side3 ?side4 A7.out).mono ?_); (case side1 => repeat (first | exact (Kd.R_reads' HO145.out).2.2 | (with_reducible refine Kd.C_alloc ?_ _) | (with_reducible refine Kd.C_drewN ?_ _) | (with_reducible refine Kd.C_drew ?_))); (case side2 => exact (Kd.R_reads' HO145.out).2.1); (case side3 => repeat (first | exact (Kd.C_below HR2.out HB.out) | (with_reducible refine Kd.C_alloc ?_ _) | (with_reducible refine Kd.C_drewN ?_ _) | (with_reducible refine Kd.C_drew ?_))); (case side4 => exact HC2.out); rintro e w13 ⟨v147, rfl, ho0, hb⟩; have n0_ := Aside0.mk (Kd.R_below (by (with_reducible repeat (first | apply Kd.R_alloc | apply Kd.R_drewN | apply Kd.R_drew)); exact HO145.out) hb); have n1_ := Aside0.mk (Kd.R_lower ho0 (below_size (by repeat (first | (with_reducible first | exact HB.out | apply below_alloc | apply pw_below_drewN | apply below_drew1) | exact HB.out)))); have n2_ := Aside0.mk (below_step (by repeat (first | (with_reducible first | exact HB.out | apply below_alloc | apply pw_below_drewN | apply below_drew1) | exact HB.out)) hb); clear HO145; clear HB; have HO145 := n0_; have HO148 := n1_; have HB := n2_; clear n0_ n1_ n2_; (try clear hb); (try clear hb2); (try clear hk); (try clear hi); (try clear ho0); obtain ⟨Ao14, co14, eo14⟩ := Kd.R_slice HO148.out; subst eo14) | (go_at_call 10; (with_reducible refine (graph_Order.calls _ _ t143 _ _ t146 t149 t150 _ ?side1 ?side2 ?side3 ?side4 A8.out).mono ?_); (case side1 => repeat (first | exact (Kd.R_reads' HO145.out).2.2 | (with_reducible refine Kd.C_alloc ?_ _) | (with_reducible refine Kd.C_drewN ?_ _) | (with_reducible refine Kd.C_drew ?_))); (case side2 => exact (Kd.R_reads' HO145.out).2.1); (case side3 => repeat (first | exact (Kd.R_reads' HO148.out).2.2 | (with_reducible refine Kd.C_alloc ?_ _) | (with_reducible refine Kd.C_drewN ?_ _) | (with_reducible refine Kd.C_drew ?_))); (case side4 => exact (Kd.R_reads' HO148.out).2.1); rintro e w15 ⟨v151, rfl, ho0, hb⟩; have n0_ := Aside0.mk (Kd.R_elder' (by (with_reducible repeat (first | apply Kd.R_alloc | apply Kd.R_drewN | apply Kd.R_drew)); exact HO145.out) (Kd.R_base ho0) hb); have n1_ := Aside0.mk (Kd.R_below (by (with_reducible repeat (first | apply Kd.R_alloc | apply Kd.R_drewN | apply Kd.R_drew)); exact HO148.out) hb); have n2_ := Aside0.mk (Kd.R_lower (Kd.R_new' ho0 (Kd.R_lt (by (with_reducible repeat (first | apply Kd.R_alloc | apply Kd.R_drewN | apply Kd.R_drew)); exact HO145.out))) (below_size (by repeat (first | (with_reducible first | exact HB.out | apply below_alloc | apply pw_below_drewN | apply below_drew1) | exact HB.out)))); have n3_ := Aside0.mk (below_step (by repeat (first | (with_reducible first | exact HB.out | apply below_alloc | apply pw_below_drewN | apply below_drew1) | exact HB.out)) hb); clear HO145; clear HO148; clear HB; have HO145 := n0_; have HO148 := n1_; have HO152 := n2_; have HB := n3_; clear n0_ n1_ n2_ n3_; (try clear hb); (try clear hb2); (try clear hk); (try clear hi); (try clear ho0))))
    (try simp only [Act.put, List.setIfInBounds_toArray, List.set_cons_zero, List.set_cons_succ])
    go_cut [36] (fun v36 wc => ∃ (kq : Nat) (x36_8 : Bool), v36 = .bool x36_8 ∧ Aside0 (flagstonelaw10_GraphAfter.j0 kq t143 t146 t149 x36_8 = some r) ∧ Aside0 (kq ≤ k) ∧ Aside0 (Kd.R Kd.string 9 wc w.heap.size (fun k_ => some k_ ≠ (v151 : Value).ownBlock) (.slice Ao12 t143.length co12) t143) ∧ Aside0 (Kd.R k40 40 wc w.heap.size (fun _ => True) (.slice Ao14 t146.length co14) t146) ∧ Aside0 (Kd.R Kd.string 9 wc w.heap.size (fun k_ => some k_ ≠ ((.slice Ao12 t143.length co12) : Value).ownBlock) v151 t149) ∧ Aside0 (Below w.heap.size w wc))
    case first =>
      have H := HC9.out
      clear HC9
      by_cases c16 : t150 = 0
      · rw [if_pos c16] at H
        have c16b0 : (t150 == 0) = true := beq_iff_eq.mpr c16
        have c16b1 : (t150 != 0) = false := bne_eq_false_iff_eq.mpr c16
        clear c16
        (first | rw [c16b0] | (simp only [i64_w, i32_w]; rw [c16b0]) | skip)
        have H' := Aside0.mk H
        clear H
        obtain ⟨Ao17, co17, eo17⟩ := Kd.R_slice HO152.out
        subst eo17
        go_wp2
        repeat (go_quiet (fail); try go_wp2)
        go_meet
        case rel => exact ⟨_, (((t149.length : Int) != (t143.length : Int))), (by first | rfl | (simp; done) | (simp [*]; done)), H', ⟨by first | omega | exact Nat.le_refl _⟩, ⟨by (with_reducible repeat (first | apply Kd.R_alloc | apply Kd.R_drewN | apply Kd.R_drew)); exact Kd.R_mono HO145.out (fun _ hk => hk.2)⟩, ⟨by (with_reducible repeat (first | apply Kd.R_alloc | apply Kd.R_drewN | apply Kd.R_drew)); exact HO148.out⟩, ⟨by (with_reducible repeat (first | apply Kd.R_alloc | apply Kd.R_drewN | apply Kd.R_drew)); exact Kd.R_mono HO152.out (fun _ hk => hk.2)⟩, ⟨by repeat (first | (with_reducible first | exact HB.out | apply below_alloc | apply pw_below_drewN | apply below_drew1) | exact HB.out)⟩⟩
      · rw [if_neg c16] at H
        have c16b0 : (t150 == 0) = false := beq_eq_false_iff_ne.mpr c16
        have c16b1 : (t150 != 0) = true := bne_iff_ne.mpr c16
        (first | rw [c16b0] | (simp only [i64_w, i32_w]; rw [c16b0]) | skip)
        have H' := Aside0.mk H
        clear H
        go_wp2
        repeat (go_quiet (fail); try go_wp2)
        go_meet
        case rel => exact ⟨_, (true), (by first | rfl | (simp; done) | (simp [*]; done)), H', ⟨by first | omega | exact Nat.le_refl _⟩, ⟨by (with_reducible repeat (first | apply Kd.R_alloc | apply Kd.R_drewN | apply Kd.R_drew)); exact Kd.R_mono HO145.out (fun _ hk => hk.2)⟩, ⟨by (with_reducible repeat (first | apply Kd.R_alloc | apply Kd.R_drewN | apply Kd.R_drew)); exact HO148.out⟩, ⟨by (with_reducible repeat (first | apply Kd.R_alloc | apply Kd.R_drewN | apply Kd.R_drew)); exact Kd.R_mono HO152.out (fun _ hk => hk.2)⟩, ⟨by repeat (first | (with_reducible first | exact HB.out | apply below_alloc | apply pw_below_drewN | apply below_drew1) | exact HB.out)⟩⟩
    case rest =>
      clear HC9
      try clear c1
      try clear c2
      try clear p2
      try clear c4
      try clear c5
      try clear c16
      try clear c16b0
      try clear c16b1
      obtain ⟨kq, x36_8, rfl, HA, HJ8, HO_7, HO_8, HO_9, HB⟩ := hcut
      cases kq with
      | zero => exact absurd HA.out (by simp [flagstonelaw10_GraphAfter.j0])
      | succ kj8 =>
        have H := HA.out
        clear HA
        simp only [flagstonelaw10_GraphAfter.j0] at H
        by_cases c18 : x36_8 = true
        · subst c18
          have H1 : (none) = some r := by rw [if_pos rfl] at H; exact H
          clear H
          have H := H1
          clear H1
          exact absurd H (by simp)
        · replace c18 := Bool.eq_false_iff.mpr c18
          subst c18
          have H1 : (flagstonelaw10_GraphAfter.l0 kj8 t143 t146 t149 0) = some r := by rw [if_neg (show ¬ (false = true) by decide)] at H; exact H
          clear H
          have H := H1
          clear H1
          have H' := Aside0.mk H
          clear H
          go_wp2
          repeat (go_quiet (fail); try go_wp2)
          go_loopg [11] kj8 (fun kq v11 w' => ∃ (x11_2 : Int), v11 = .int .i64 x11_2 ∧ Aside0 (flagstonelaw10_GraphAfter.l0 kq t143 t146 t149 x11_2 = some r) ∧ Aside0 (kq ≤ kj8) ∧ Aside0 (Kd.R Kd.string 9 w' w.heap.size (fun k_ => some k_ ≠ (v151 : Value).ownBlock) (.slice Ao12 t143.length co12) t143) ∧ Aside0 (Kd.R k40 40 w' w.heap.size (fun _ => True) (.slice Ao14 t146.length co14) t146) ∧ Aside0 (Kd.R Kd.string 9 w' w.heap.size (fun k_ => some k_ ≠ ((.slice Ao12 t143.length co12) : Value).ownBlock) v151 t149) ∧ Aside0 (Below w.heap.size w w'))
          case atStart => exact ⟨(0), (by first | rfl | (simp; done) | (simp [*]; done)), H', ⟨Nat.le_refl _⟩, ⟨by (with_reducible repeat (first | apply Kd.R_alloc | apply Kd.R_drewN | apply Kd.R_drew)); exact HO_7.out⟩, ⟨by (with_reducible repeat (first | apply Kd.R_alloc | apply Kd.R_drewN | apply Kd.R_drew)); exact HO_8.out⟩, ⟨by (with_reducible repeat (first | apply Kd.R_alloc | apply Kd.R_drewN | apply Kd.R_drew)); exact HO_9.out⟩, ⟨by repeat (first | (with_reducible first | exact HB.out | apply below_alloc | apply pw_below_drewN | apply below_drew1) | exact HB.out)⟩⟩
          case round =>
            clear H'
            try clear c1
            try clear c2
            try clear p2
            try clear c4
            try clear c5
            try clear c16
            try clear c16b0
            try clear c16b1
            try clear c18
            try clear p2
            obtain ⟨x11_2, rfl, HA, HK2, HO_7, HO_8, HO_9, HB⟩ := hrel
            cases gk with
            | zero => exact absurd HA.out (by simp [flagstonelaw10_GraphAfter.l0])
            | succ k2 =>
              have H := HA.out
              clear HA
              simp only [flagstonelaw10_GraphAfter.l0] at H
              by_cases c19 : x11_2 < (t149.length : Int)
              · rw [if_pos c19] at H
                have c19b0 : decide (x11_2 < (t149.length : Int)) = true := decide_eq_true c19
                clear c19
                have HC20 := Aside0.mk H
                clear H
                obtain ⟨Ao21, co21, eo21⟩ := Kd.R_slice HO_9.out
                subst eo21
                go_upto_region 11 with (fail)
                repeat (go_quiet (fail); go_upto_region 11 with (fail))
                go_cut [59] (fun v59 wc => ∃ (kq : Nat) (x59_19 : Bool), v59 = .bool x59_19 ∧ Aside0 (flagstonelaw10_GraphAfter.j2 kq t143 t146 t149 x11_2 x59_19 = some r) ∧ Aside0 (kq ≤ k2) ∧ Aside0 (Kd.R Kd.string 9 wc w.heap.size (fun k_ => some k_ ≠ ((.slice Ao21 t149.length co21) : Value).ownBlock) (.slice Ao12 t143.length co12) t143) ∧ Aside0 (Kd.R k40 40 wc w.heap.size (fun _ => True) (.slice Ao14 t146.length co14) t146) ∧ Aside0 (Kd.R Kd.string 9 wc w.heap.size (fun k_ => some k_ ≠ ((.slice Ao12 t143.length co12) : Value).ownBlock) (.slice Ao21 t149.length co21) t149) ∧ Aside0 (Below w.heap.size w wc))
                case first =>
                  have H := HC20.out
                  clear HC20
                  by_cases c22 : 0 ≤ x11_2
                  · rw [if_pos c22] at H
                    have c22b0 : decide (0 ≤ x11_2) = true := decide_eq_true c22
                    clear c22
                    (first | rw [c22b0] | (simp only [i64_w, i32_w]; rw [c22b0]) | skip)
                    replace H := Option.bind_eq_some_iff.mp H
                    obtain ⟨t154, A230, H⟩ := H
                    replace H : (if t154 = true then (if x11_2 ≤ (t149.length : Int) then ((flagstoneref1_Has.f k2 (t149.take (x11_2 : Int).toNat) (rdOf ByteArray.empty t149 x11_2)).bind fun t160 => (flagstonelaw10_GraphAfter.j2 k2 t143 t146 t149 x11_2 t160)) else (none)) else (flagstonelaw10_GraphAfter.j2 k2 t143 t146 t149 x11_2 true)) = some r := H
                    have A23 := Aside0.mk A230
                    clear A230
                    by_cases c24 : t154 = true
                    · subst c24
                      have H1 : (if x11_2 ≤ (t149.length : Int) then ((flagstoneref1_Has.f k2 (t149.take (x11_2 : Int).toNat) (rdOf ByteArray.empty t149 x11_2)).bind fun t160 => (flagstonelaw10_GraphAfter.j2 k2 t143 t146 t149 x11_2 t160)) else (none)) = some r := by rw [if_pos rfl] at H; exact H
                      clear H
                      have H := H1
                      clear H1
                      have c25b0 := eq_true (of_decide_eq_true (by first | (with_reducible assumption) | assumption) : 0 ≤ x11_2)
                      by_cases c26 : x11_2 ≤ (t149.length : Int)
                      · rw [if_pos c26] at H
                        have c26b0 := eq_true c26
                        have c26b1 : decide (x11_2 ≤ (t149.length : Int)) = true := decide_eq_true c26
                        clear c26
                        obtain ⟨y155, hy155⟩ : ∃ y_ : List ByteArray, y_ = (t149.take (x11_2 : Int).toNat) := ⟨_, rfl⟩
                        replace H : ((flagstoneref1_Has.f k2 y155 (rdOf ByteArray.empty t149 x11_2)).bind fun t160 => (flagstonelaw10_GraphAfter.j2 k2 t143 t146 t149 x11_2 t160)) = some r := by first | (rw [hy155]; with_reducible exact H) | (have H2_ := (Option.bind_some _ _).symm.trans H; rw [hy155]; with_reducible exact H2_) | (have H2_ := (Option.bind_some _ _).symm.trans H; with_reducible exact H2_) | with_reducible exact H | (rw [hy155]; exact H) | exact H
                        have Ny155 := Aside0.mk hy155
                        clear hy155
                        replace H := Option.bind_eq_some_iff.mp H
                        obtain ⟨t160, A270, H⟩ := H
                        replace H : (flagstonelaw10_GraphAfter.j2 k2 t143 t146 t149 x11_2 t160) = some r := H
                        have A27 := Aside0.mk A270
                        clear A270
                        have H' := Aside0.mk H
                        clear H
                        have p153 : 0 ≤ (x11_2 : Int) := of_decide_eq_true (by first | (with_reducible assumption) | assumption)
                        have q153 : x11_2 < (t149.length : Int) := of_decide_eq_true (by first | (with_reducible assumption) | assumption)
                        obtain ⟨ad153, e153, hx153_0⟩ := Kd.at_string (Kd.R_reads' HO_9.out).2.2 x11_2 p153 q153
                        cases e153
                        replace p153 := eq_true p153
                        replace q153 := eq_true q153
                        go_wp2_with (first | (go_at_call 13; (with_reducible refine (flagstoneref1_Has.calls k2 _ _ t143 (rdOf ByteArray.empty t149 x11_2) true _ ?side1 ?side2 A23.out).mono ?_); (case side1 => repeat (first | exact (Kd.R_reads' HO_7.out).2.2 | (with_reducible refine Kd.C_alloc ?_ _) | (with_reducible refine Kd.C_drewN ?_ _) | (with_reducible refine Kd.C_drew ?_))); (case side2 => exact (Kd.R_reads' HO_7.out).2.1); rintro e w' ⟨rfl, ⟨nd, rfl⟩⟩; (try first | exact ⟨rfl, _, World.drewN_drewN _ _ _⟩ | exact ⟨rfl, _, Eq.trans (World.drewN_drewN _ _ _) (congrArg (World.drewN _) (Nat.add_assoc _ _ _))⟩); have q28 : (x11_2 : Int) ≤ ((t149.length : Int) : Int) := of_decide_eq_true (by first | (with_reducible assumption) | assumption); obtain ⟨i028, hi028, _, hsz28, _⟩ := info_parts info9; have hroom28 : t149.length ≤ co21 := (Kd.R_reads' HO_9.out).2.1; have hC28 : Kd.C Kd.string _ (some ad153) t149.length t149 := (Kd.R_reads' HO_9.out).2.2; have hcut28 := cut_to (P := Try.prog) 23 9 .i64 Try.underlying23 hi028 (some ad153) t149.length co21 x11_2 (of_decide_eq_true (by first | (with_reducible assumption) | assumption)) q28 hroom28; have hr28 := Kd.C_take (m := (x11_2 : Int).toNat) hC28 (by omega); have hy28 : y155.length = (x11_2 : Int).toNat := (by rw [Ny155.out, List.length_take]; omega); rw [← Ny155.out] at hr28; rw [← hy28] at hcut28; have HR158 := Aside0.mk hr28; have HC158 := Aside0.mk (show y155.length ≤ co21 from by omega); clear hr28 hC28 hroom28 hi028 hsz28; have KY28 := Aside0.mk hy28; clear hy28; have KL28 := Aside0.mk (show (x11_2 : Int).toNat ≤ t149.length from by omega); replace q28 := eq_true q28; have p159 : 0 ≤ (x11_2 : Int) := of_decide_eq_true (by first | (with_reducible assumption) | assumption); have q159 : x11_2 < (t149.length : Int) := of_decide_eq_true (by first | (with_reducible assumption) | assumption); obtain ⟨ad159, e159, hx159_0⟩ := Kd.at_string (Kd.R_reads' HO_9.out).2.2 x11_2 p159 q159; obtain rfl : ad153 = ad159 := (by injection e159); replace p159 := eq_true p159; replace q159 := eq_true q159) | (go_at_call 13; (with_reducible refine (flagstoneref1_Has.calls k2 _ _ y155 (rdOf ByteArray.empty t149 x11_2) t160 _ ?side1 ?side2 A27.out).mono ?_); (case side1 => repeat (first | exact (by repeat (first | (with_reducible exact HR158.out) | (with_reducible refine Kd.C_alloc ?_ _) | (with_reducible refine Kd.C_drewN ?_ _) | (with_reducible refine Kd.C_drew ?_) | exact HR158.out)) | (with_reducible refine Kd.C_alloc ?_ _) | (with_reducible refine Kd.C_drewN ?_ _) | (with_reducible refine Kd.C_drew ?_))); (case side2 => exact HC158.out); rintro e w' ⟨rfl, ⟨nd, rfl⟩⟩; (try first | exact ⟨rfl, _, World.drewN_drewN _ _ _⟩ | exact ⟨rfl, _, Eq.trans (World.drewN_drewN _ _ _) (congrArg (World.drewN _) (Nat.add_assoc _ _ _))⟩)))
                        repeat (go_quiet (first | (go_at_call 13; (with_reducible refine (flagstoneref1_Has.calls k2 _ _ t143 (rdOf ByteArray.empty t149 x11_2) true _ ?side1 ?side2 A23.out).mono ?_); (case side1 => repeat (first | exact (Kd.R_reads' HO_7.out).2.2 | (with_reducible refine Kd.C_alloc ?_ _) | (with_reducible refine Kd.C_drewN ?_ _) | (with_reducible refine Kd.C_drew ?_))); (case side2 => exact (Kd.R_reads' HO_7.out).2.1); rintro e w' ⟨rfl, ⟨nd, rfl⟩⟩; (try first | exact ⟨rfl, _, World.drewN_drewN _ _ _⟩ | exact ⟨rfl, _, Eq.trans (World.drewN_drewN _ _ _) (congrArg (World.drewN _) (Nat.add_assoc _ _ _))⟩); have q28 : (x11_2 : Int) ≤ ((t149.length : Int) : Int) := of_decide_eq_true (by first | (with_reducible assumption) | assumption); obtain ⟨i028, hi028, _, hsz28, _⟩ := info_parts info9; have hroom28 : t149.length ≤ co21 := (Kd.R_reads' HO_9.out).2.1; have hC28 : Kd.C Kd.string _ (some ad153) t149.length t149 := (Kd.R_reads' HO_9.out).2.2; have hcut28 := cut_to (P := Try.prog) 23 9 .i64 Try.underlying23 hi028 (some ad153) t149.length co21 x11_2 (of_decide_eq_true (by first | (with_reducible assumption) | assumption)) q28 hroom28; have hr28 := Kd.C_take (m := (x11_2 : Int).toNat) hC28 (by omega); have hy28 : y155.length = (x11_2 : Int).toNat := (by rw [Ny155.out, List.length_take]; omega); rw [← Ny155.out] at hr28; rw [← hy28] at hcut28; have HR158 := Aside0.mk hr28; have HC158 := Aside0.mk (show y155.length ≤ co21 from by omega); clear hr28 hC28 hroom28 hi028 hsz28; have KY28 := Aside0.mk hy28; clear hy28; have KL28 := Aside0.mk (show (x11_2 : Int).toNat ≤ t149.length from by omega); replace q28 := eq_true q28; have p159 : 0 ≤ (x11_2 : Int) := of_decide_eq_true (by first | (with_reducible assumption) | assumption); have q159 : x11_2 < (t149.length : Int) := of_decide_eq_true (by first | (with_reducible assumption) | assumption); obtain ⟨ad159, e159, hx159_0⟩ := Kd.at_string (Kd.R_reads' HO_9.out).2.2 x11_2 p159 q159; obtain rfl : ad153 = ad159 := (by injection e159); replace p159 := eq_true p159; replace q159 := eq_true q159) | (go_at_call 13; (with_reducible refine (flagstoneref1_Has.calls k2 _ _ y155 (rdOf ByteArray.empty t149 x11_2) t160 _ ?side1 ?side2 A27.out).mono ?_); (case side1 => repeat (first | exact (by repeat (first | (with_reducible exact HR158.out) | (with_reducible refine Kd.C_alloc ?_ _) | (with_reducible refine Kd.C_drewN ?_ _) | (with_reducible refine Kd.C_drew ?_) | exact HR158.out)) | (with_reducible refine Kd.C_alloc ?_ _) | (with_reducible refine Kd.C_drewN ?_ _) | (with_reducible refine Kd.C_drew ?_))); (case side2 => exact HC158.out); rintro e w' ⟨rfl, ⟨nd, rfl⟩⟩; (try first | exact ⟨rfl, _, World.drewN_drewN _ _ _⟩ | exact ⟨rfl, _, Eq.trans (World.drewN_drewN _ _ _) (congrArg (World.drewN _) (Nat.add_assoc _ _ _))⟩))); try go_wp2_with (first | (go_at_call 13; (with_reducible refine (flagstoneref1_Has.calls k2 _ _ t143 (rdOf ByteArray.empty t149 x11_2) true _ ?side1 ?side2 A23.out).mono ?_); (case side1 => repeat (first | exact (Kd.R_reads' HO_7.out).2.2 | (with_reducible refine Kd.C_alloc ?_ _) | (with_reducible refine Kd.C_drewN ?_ _) | (with_reducible refine Kd.C_drew ?_))); (case side2 => exact (Kd.R_reads' HO_7.out).2.1); rintro e w' ⟨rfl, ⟨nd, rfl⟩⟩; (try first | exact ⟨rfl, _, World.drewN_drewN _ _ _⟩ | exact ⟨rfl, _, Eq.trans (World.drewN_drewN _ _ _) (congrArg (World.drewN _) (Nat.add_assoc _ _ _))⟩); have q28 : (x11_2 : Int) ≤ ((t149.length : Int) : Int) := of_decide_eq_true (by first | (with_reducible assumption) | assumption); obtain ⟨i028, hi028, _, hsz28, _⟩ := info_parts info9; have hroom28 : t149.length ≤ co21 := (Kd.R_reads' HO_9.out).2.1; have hC28 : Kd.C Kd.string _ (some ad153) t149.length t149 := (Kd.R_reads' HO_9.out).2.2; have hcut28 := cut_to (P := Try.prog) 23 9 .i64 Try.underlying23 hi028 (some ad153) t149.length co21 x11_2 (of_decide_eq_true (by first | (with_reducible assumption) | assumption)) q28 hroom28; have hr28 := Kd.C_take (m := (x11_2 : Int).toNat) hC28 (by omega); have hy28 : y155.length = (x11_2 : Int).toNat := (by rw [Ny155.out, List.length_take]; omega); rw [← Ny155.out] at hr28; rw [← hy28] at hcut28; have HR158 := Aside0.mk hr28; have HC158 := Aside0.mk (show y155.length ≤ co21 from by omega); clear hr28 hC28 hroom28 hi028 hsz28; have KY28 := Aside0.mk hy28; clear hy28; have KL28 := Aside0.mk (show (x11_2 : Int).toNat ≤ t149.length from by omega); replace q28 := eq_true q28; have p159 : 0 ≤ (x11_2 : Int) := of_decide_eq_true (by first | (with_reducible assumption) | assumption); have q159 : x11_2 < (t149.length : Int) := of_decide_eq_true (by first | (with_reducible assumption) | assumption); obtain ⟨ad159, e159, hx159_0⟩ := Kd.at_string (Kd.R_reads' HO_9.out).2.2 x11_2 p159 q159; obtain rfl : ad153 = ad159 := (by injection e159); replace p159 := eq_true p159; replace q159 := eq_true q159) | (go_at_call 13; (with_reducible refine (flagstoneref1_Has.calls k2 _ _ y155 (rdOf ByteArray.empty t149 x11_2) t160 _ ?side1 ?side2 A27.out).mono ?_); (case side1 => repeat (first | exact (by repeat (first | (with_reducible exact HR158.out) | (with_reducible refine Kd.C_alloc ?_ _) | (with_reducible refine Kd.C_drewN ?_ _) | (with_reducible refine Kd.C_drew ?_) | exact HR158.out)) | (with_reducible refine Kd.C_alloc ?_ _) | (with_reducible refine Kd.C_drewN ?_ _) | (with_reducible refine Kd.C_drew ?_))); (case side2 => exact HC158.out); rintro e w' ⟨rfl, ⟨nd, rfl⟩⟩; (try first | exact ⟨rfl, _, World.drewN_drewN _ _ _⟩ | exact ⟨rfl, _, Eq.trans (World.drewN_drewN _ _ _) (congrArg (World.drewN _) (Nat.add_assoc _ _ _))⟩))))
                        go_meet
                        case rel => exact ⟨_, (t160), (by first | rfl | (simp; done) | (simp [*]; done)), H', ⟨by have := HJ8.out; have := HK2.out; first | omega | exact Nat.le_refl _⟩, ⟨by (with_reducible repeat (first | apply Kd.R_alloc | apply Kd.R_drewN | apply Kd.R_drew)); exact HO_7.out⟩, ⟨by (with_reducible repeat (first | apply Kd.R_alloc | apply Kd.R_drewN | apply Kd.R_drew)); exact HO_8.out⟩, ⟨by (with_reducible repeat (first | apply Kd.R_alloc | apply Kd.R_drewN | apply Kd.R_drew)); exact HO_9.out⟩, ⟨by repeat (first | (with_reducible first | exact HB.out | apply below_alloc | apply pw_below_drewN | apply below_drew1) | exact HB.out)⟩⟩
                      · rw [if_neg c26] at H
                        exact absurd H (by simp)
                    · replace c24 := Bool.eq_false_iff.mpr c24
                      subst c24
                      have H1 : (flagstonelaw10_GraphAfter.j2 k2 t143 t146 t149 x11_2 true) = some r := by rw [if_neg (show ¬ (false = true) by decide)] at H; exact H
                      clear H
                      have H := H1
                      clear H1
                      have H' := Aside0.mk H
                      clear H
                      have p153 : 0 ≤ (x11_2 : Int) := of_decide_eq_true (by first | (with_reducible assumption) | assumption)
                      have q153 : x11_2 < (t149.length : Int) := of_decide_eq_true (by first | (with_reducible assumption) | assumption)
                      obtain ⟨ad153, e153, hx153_0⟩ := Kd.at_string (Kd.R_reads' HO_9.out).2.2 x11_2 p153 q153
                      cases e153
                      replace p153 := eq_true p153
                      replace q153 := eq_true q153
                      go_wp2_with (first | (go_at_call 13; (with_reducible refine (flagstoneref1_Has.calls k2 _ _ t143 (rdOf ByteArray.empty t149 x11_2) false _ ?side1 ?side2 A23.out).mono ?_); (case side1 => repeat (first | exact (Kd.R_reads' HO_7.out).2.2 | (with_reducible refine Kd.C_alloc ?_ _) | (with_reducible refine Kd.C_drewN ?_ _) | (with_reducible refine Kd.C_drew ?_))); (case side2 => exact (Kd.R_reads' HO_7.out).2.1); rintro e w' ⟨rfl, ⟨nd, rfl⟩⟩; (try first | exact ⟨rfl, _, World.drewN_drewN _ _ _⟩ | exact ⟨rfl, _, Eq.trans (World.drewN_drewN _ _ _) (congrArg (World.drewN _) (Nat.add_assoc _ _ _))⟩)))
                      repeat (go_quiet (first | (go_at_call 13; (with_reducible refine (flagstoneref1_Has.calls k2 _ _ t143 (rdOf ByteArray.empty t149 x11_2) false _ ?side1 ?side2 A23.out).mono ?_); (case side1 => repeat (first | exact (Kd.R_reads' HO_7.out).2.2 | (with_reducible refine Kd.C_alloc ?_ _) | (with_reducible refine Kd.C_drewN ?_ _) | (with_reducible refine Kd.C_drew ?_))); (case side2 => exact (Kd.R_reads' HO_7.out).2.1); rintro e w' ⟨rfl, ⟨nd, rfl⟩⟩; (try first | exact ⟨rfl, _, World.drewN_drewN _ _ _⟩ | exact ⟨rfl, _, Eq.trans (World.drewN_drewN _ _ _) (congrArg (World.drewN _) (Nat.add_assoc _ _ _))⟩))); try go_wp2_with (first | (go_at_call 13; (with_reducible refine (flagstoneref1_Has.calls k2 _ _ t143 (rdOf ByteArray.empty t149 x11_2) false _ ?side1 ?side2 A23.out).mono ?_); (case side1 => repeat (first | exact (Kd.R_reads' HO_7.out).2.2 | (with_reducible refine Kd.C_alloc ?_ _) | (with_reducible refine Kd.C_drewN ?_ _) | (with_reducible refine Kd.C_drew ?_))); (case side2 => exact (Kd.R_reads' HO_7.out).2.1); rintro e w' ⟨rfl, ⟨nd, rfl⟩⟩; (try first | exact ⟨rfl, _, World.drewN_drewN _ _ _⟩ | exact ⟨rfl, _, Eq.trans (World.drewN_drewN _ _ _) (congrArg (World.drewN _) (Nat.add_assoc _ _ _))⟩))))
                      go_meet
                      case rel => exact ⟨_, (true), (by first | rfl | (simp; done) | (simp [*]; done)), H', ⟨by have := HJ8.out; have := HK2.out; first | omega | exact Nat.le_refl _⟩, ⟨by (with_reducible repeat (first | apply Kd.R_alloc | apply Kd.R_drewN | apply Kd.R_drew)); exact HO_7.out⟩, ⟨by (with_reducible repeat (first | apply Kd.R_alloc | apply Kd.R_drewN | apply Kd.R_drew)); exact HO_8.out⟩, ⟨by (with_reducible repeat (first | apply Kd.R_alloc | apply Kd.R_drewN | apply Kd.R_drew)); exact HO_9.out⟩, ⟨by repeat (first | (with_reducible first | exact HB.out | apply below_alloc | apply pw_below_drewN | apply below_drew1) | exact HB.out)⟩⟩
                  · rw [if_neg c22] at H
                    exact absurd H (by simp)
                case rest =>
                  clear HC20
                  try clear c1
                  try clear p1
                  try clear q1
                  try clear hx1
                  try clear c2
                  try clear p2
                  try clear q2
                  try clear c4
                  try clear c5
                  try clear p15
                  try clear q15
                  try clear hx15
                  try clear c16
                  try clear c16b0
                  try clear c16b1
                  try clear c18
                  try clear c19
                  try clear c19b0
                  try clear c22
                  try clear c22b0
                  try clear c24
                  try clear c25
                  try clear c25b0
                  try clear c26
                  try clear c26b0
                  try clear c26b1
                  try clear q28
                  try clear hx153_0
                  try clear hx159_0
                  try clear p153
                  try clear p159
                  try clear p2
                  try clear q153
                  try clear q159
                  try clear q28
                  obtain ⟨kq, x59_19, rfl, HA, HJ19, HO_7, HO_8, HO_9, HB⟩ := hcut
                  cases kq with
                  | zero => exact absurd HA.out (by simp [flagstonelaw10_GraphAfter.j2])
                  | succ kj19 =>
                    have H := HA.out
                    clear HA
                    simp only [flagstonelaw10_GraphAfter.j2] at H
                    by_cases c29 : x59_19 = true
                    · subst c29
                      have H1 : (none) = some r := by rw [if_pos rfl] at H; exact H
                      clear H
                      have H := H1
                      clear H1
                      exact absurd H (by simp)
                    · replace c29 := Bool.eq_false_iff.mpr c29
                      subst c29
                      have H1 : (if 0 ≤ x11_2 then (if x11_2 < (t149.length : Int) then ((graph_Needs.f t146 (rdOf ByteArray.empty t149 x11_2)).bind fun t162 => (flagstonelaw10_GraphAfter.l1 kj19 t143 t146 t149 x11_2 t162 0)) else (none)) else (none)) = some r := by rw [if_neg (show ¬ (false = true) by decide)] at H; exact H
                      clear H
                      have H := H1
                      clear H1
                      by_cases c30 : 0 ≤ x11_2
                      · rw [if_pos c30] at H
                        have c30b0 : decide (0 ≤ x11_2) = true := decide_eq_true c30
                        clear c30
                        by_cases c31 : x11_2 < (t149.length : Int)
                        · rw [if_pos c31] at H
                          have c31b0 : decide (x11_2 < (t149.length : Int)) = true := decide_eq_true c31
                          clear c31
                          replace H := Option.bind_eq_some_iff.mp H
                          obtain ⟨t162, A320, H⟩ := H
                          replace H : (flagstonelaw10_GraphAfter.l1 kj19 t143 t146 t149 x11_2 t162 0) = some r := H
                          have A32 := Aside0.mk A320
                          clear A320
                          have H' := Aside0.mk H
                          clear H
                          have p161 : 0 ≤ (x11_2 : Int) := of_decide_eq_true (by first | (with_reducible assumption) | assumption)
                          have q161 : x11_2 < (t149.length : Int) := of_decide_eq_true (by first | (with_reducible assumption) | assumption)
                          obtain ⟨ad161, e161, hx161_0⟩ := Kd.at_string (Kd.R_reads' HO_9.out).2.2 x11_2 p161 q161
                          cases e161
                          replace p161 := eq_true p161
                          replace q161 := eq_true q161
                          go_wp2_with (first | (go_at_call 14; (with_reducible refine (graph_Needs.calls _ _ t146 (rdOf ByteArray.empty t149 x11_2) t162 _ ?side1 ?side2 A32.out).mono ?_); (case side1 => repeat (first | exact (Kd.R_reads' HO_8.out).2.2 | (with_reducible refine Kd.C_alloc ?_ _) | (with_reducible refine Kd.C_drewN ?_ _) | (with_reducible refine Kd.C_drew ?_))); (case side2 => exact (Kd.R_reads' HO_8.out).2.1); rintro e w33 ⟨v163, rfl, ho0, hb⟩; have n0_ := Aside0.mk (Kd.R_elder' (by (with_reducible repeat (first | apply Kd.R_alloc | apply Kd.R_drewN | apply Kd.R_drew)); exact HO_7.out) (Kd.R_base ho0) hb); have n1_ := Aside0.mk (Kd.R_below (by (with_reducible repeat (first | apply Kd.R_alloc | apply Kd.R_drewN | apply Kd.R_drew)); exact HO_8.out) hb); have n2_ := Aside0.mk (Kd.R_elder' (by (with_reducible repeat (first | apply Kd.R_alloc | apply Kd.R_drewN | apply Kd.R_drew)); exact HO_9.out) (Kd.R_base ho0) hb); have n3_ := Aside0.mk (Kd.R_lower (Kd.R_new' (Kd.R_new' ho0 (Kd.R_lt (by (with_reducible repeat (first | apply Kd.R_alloc | apply Kd.R_drewN | apply Kd.R_drew)); exact HO_7.out))) (Kd.R_lt (by (with_reducible repeat (first | apply Kd.R_alloc | apply Kd.R_drewN | apply Kd.R_drew)); exact HO_9.out))) (below_size (by repeat (first | (with_reducible first | exact HB.out | apply below_alloc | apply pw_below_drewN | apply below_drew1) | exact HB.out)))); have n4_ := Aside0.mk (below_step (by repeat (first | (with_reducible first | exact HB.out | apply below_alloc | apply pw_below_drewN | apply below_drew1) | exact HB.out)) hb); clear HO_7; clear HO_8; clear HO_9; clear HB; have HO_7 := n0_; have HO_8 := n1_; have HO_9 := n2_; have HO164 := n3_; have HB := n4_; clear n0_ n1_ n2_ n3_ n4_; (try clear hb); (try clear hb2); (try clear hk); (try clear hi); (try clear ho0)))
                          repeat (go_quiet (first | (go_at_call 14; (with_reducible refine (graph_Needs.calls _ _ t146 (rdOf ByteArray.empty t149 x11_2) t162 _ ?side1 ?side2 A32.out).mono ?_); (case side1 => repeat (first | exact (Kd.R_reads' HO_8.out).2.2 | (with_reducible refine Kd.C_alloc ?_ _) | (with_reducible refine Kd.C_drewN ?_ _) | (with_reducible refine Kd.C_drew ?_))); (case side2 => exact (Kd.R_reads' HO_8.out).2.1); rintro e w33 ⟨v163, rfl, ho0, hb⟩; have n0_ := Aside0.mk (Kd.R_elder' (by (with_reducible repeat (first | apply Kd.R_alloc | apply Kd.R_drewN | apply Kd.R_drew)); exact HO_7.out) (Kd.R_base ho0) hb); have n1_ := Aside0.mk (Kd.R_below (by (with_reducible repeat (first | apply Kd.R_alloc | apply Kd.R_drewN | apply Kd.R_drew)); exact HO_8.out) hb); have n2_ := Aside0.mk (Kd.R_elder' (by (with_reducible repeat (first | apply Kd.R_alloc | apply Kd.R_drewN | apply Kd.R_drew)); exact HO_9.out) (Kd.R_base ho0) hb); have n3_ := Aside0.mk (Kd.R_lower (Kd.R_new' (Kd.R_new' ho0 (Kd.R_lt (by (with_reducible repeat (first | apply Kd.R_alloc | apply Kd.R_drewN | apply Kd.R_drew)); exact HO_7.out))) (Kd.R_lt (by (with_reducible repeat (first | apply Kd.R_alloc | apply Kd.R_drewN | apply Kd.R_drew)); exact HO_9.out))) (below_size (by repeat (first | (with_reducible first | exact HB.out | apply below_alloc | apply pw_below_drewN | apply below_drew1) | exact HB.out)))); have n4_ := Aside0.mk (below_step (by repeat (first | (with_reducible first | exact HB.out | apply below_alloc | apply pw_below_drewN | apply below_drew1) | exact HB.out)) hb); clear HO_7; clear HO_8; clear HO_9; clear HB; have HO_7 := n0_; have HO_8 := n1_; have HO_9 := n2_; have HO164 := n3_; have HB := n4_; clear n0_ n1_ n2_ n3_ n4_; (try clear hb); (try clear hb2); (try clear hk); (try clear hi); (try clear ho0))); try go_wp2_with (first | (go_at_call 14; (with_reducible refine (graph_Needs.calls _ _ t146 (rdOf ByteArray.empty t149 x11_2) t162 _ ?side1 ?side2 A32.out).mono ?_); (case side1 => repeat (first | exact (Kd.R_reads' HO_8.out).2.2 | (with_reducible refine Kd.C_alloc ?_ _) | (with_reducible refine Kd.C_drewN ?_ _) | (with_reducible refine Kd.C_drew ?_))); (case side2 => exact (Kd.R_reads' HO_8.out).2.1); rintro e w33 ⟨v163, rfl, ho0, hb⟩; have n0_ := Aside0.mk (Kd.R_elder' (by (with_reducible repeat (first | apply Kd.R_alloc | apply Kd.R_drewN | apply Kd.R_drew)); exact HO_7.out) (Kd.R_base ho0) hb); have n1_ := Aside0.mk (Kd.R_below (by (with_reducible repeat (first | apply Kd.R_alloc | apply Kd.R_drewN | apply Kd.R_drew)); exact HO_8.out) hb); have n2_ := Aside0.mk (Kd.R_elder' (by (with_reducible repeat (first | apply Kd.R_alloc | apply Kd.R_drewN | apply Kd.R_drew)); exact HO_9.out) (Kd.R_base ho0) hb); have n3_ := Aside0.mk (Kd.R_lower (Kd.R_new' (Kd.R_new' ho0 (Kd.R_lt (by (with_reducible repeat (first | apply Kd.R_alloc | apply Kd.R_drewN | apply Kd.R_drew)); exact HO_7.out))) (Kd.R_lt (by (with_reducible repeat (first | apply Kd.R_alloc | apply Kd.R_drewN | apply Kd.R_drew)); exact HO_9.out))) (below_size (by repeat (first | (with_reducible first | exact HB.out | apply below_alloc | apply pw_below_drewN | apply below_drew1) | exact HB.out)))); have n4_ := Aside0.mk (below_step (by repeat (first | (with_reducible first | exact HB.out | apply below_alloc | apply pw_below_drewN | apply below_drew1) | exact HB.out)) hb); clear HO_7; clear HO_8; clear HO_9; clear HB; have HO_7 := n0_; have HO_8 := n1_; have HO_9 := n2_; have HO164 := n3_; have HB := n4_; clear n0_ n1_ n2_ n3_ n4_; (try clear hb); (try clear hb2); (try clear hk); (try clear hi); (try clear ho0))))
                          go_loopg [13] kj19 (fun kq v13 w' => ∃ (x13_4 : Int), v13 = .int .i64 x13_4 ∧ Aside0 (flagstonelaw10_GraphAfter.l1 kq t143 t146 t149 x11_2 t162 x13_4 = some r) ∧ Aside0 (kq ≤ kj19) ∧ Aside0 (Kd.R Kd.string 9 w' w.heap.size (fun k_ => some k_ ≠ ((.slice (some ad161) t149.length co21) : Value).ownBlock ∧ some k_ ≠ (v163 : Value).ownBlock) (.slice Ao12 t143.length co12) t143) ∧ Aside0 (Kd.R k40 40 w' w.heap.size (fun _ => True) (.slice Ao14 t146.length co14) t146) ∧ Aside0 (Kd.R Kd.string 9 w' w.heap.size (fun k_ => some k_ ≠ ((.slice Ao12 t143.length co12) : Value).ownBlock ∧ some k_ ≠ (v163 : Value).ownBlock) (.slice (some ad161) t149.length co21) t149) ∧ Aside0 (Kd.R Kd.string 9 w' w.heap.size (fun k_ => some k_ ≠ ((.slice Ao12 t143.length co12) : Value).ownBlock ∧ some k_ ≠ ((.slice (some ad161) t149.length co21) : Value).ownBlock) v163 t162) ∧ Aside0 (Below w.heap.size w w'))
                          case atStart => exact ⟨(0), (by first | rfl | (simp; done) | (simp [*]; done)), H', ⟨Nat.le_refl _⟩, ⟨by (with_reducible repeat (first | apply Kd.R_alloc | apply Kd.R_drewN | apply Kd.R_drew)); exact HO_7.out⟩, ⟨by (with_reducible repeat (first | apply Kd.R_alloc | apply Kd.R_drewN | apply Kd.R_drew)); exact HO_8.out⟩, ⟨by (with_reducible repeat (first | apply Kd.R_alloc | apply Kd.R_drewN | apply Kd.R_drew)); exact HO_9.out⟩, ⟨by (with_reducible repeat (first | apply Kd.R_alloc | apply Kd.R_drewN | apply Kd.R_drew)); exact Kd.R_mono HO164.out (fun _ hk => ⟨hk.1.2, hk.2⟩)⟩, ⟨by repeat (first | (with_reducible first | exact HB.out | apply below_alloc | apply pw_below_drewN | apply below_drew1) | exact HB.out)⟩⟩
                          case round =>
                            clear H'
                            try clear c1
                            try clear p1
                            try clear q1
                            try clear hx1
                            try clear c2
                            try clear p2
                            try clear q2
                            try clear c3
                            try clear c4
                            try clear c5
                            try clear p15
                            try clear q15
                            try clear hx15
                            try clear c16
                            try clear c16b0
                            try clear c16b1
                            try clear p16
                            try clear q16
                            try clear hx16
                            try clear c18
                            try clear c19
                            try clear c19b0
                            try clear c22
                            try clear c22b0
                            try clear c24
                            try clear c25
                            try clear c25b0
                            try clear c26
                            try clear c26b0
                            try clear c26b1
                            try clear q28
                            try clear c29
                            try clear c30
                            try clear c30b0
                            try clear c31
                            try clear c31b0
                            try clear hx153_0
                            try clear hx159_0
                            try clear hx161_0
                            try clear p1
                            try clear p15
                            try clear p153
                            try clear p159
                            try clear p161
                            try clear p2
                            try clear q1
                            try clear q15
                            try clear q153
                            try clear q159
                            try clear q161
                            try clear q2
                            try clear q28
                            obtain ⟨x13_4, rfl, HA, HK4, HO_7, HO_8, HO_9, HO_12, HB⟩ := hrel
                            cases gk with
                            | zero => exact absurd HA.out (by simp [flagstonelaw10_GraphAfter.l1])
                            | succ k4 =>
                              have H := HA.out
                              clear HA
                              simp only [flagstonelaw10_GraphAfter.l1] at H
                              by_cases c34 : x13_4 < (t162.length : Int)
                              · rw [if_pos c34] at H
                                have c34b0 : decide (x13_4 < (t162.length : Int)) = true := decide_eq_true c34
                                clear c34
                                by_cases c35 : 0 ≤ x11_2
                                · rw [if_pos c35] at H
                                  have c35b0 := eq_true c35
                                  have c35b1 : decide (0 ≤ x11_2) = true := decide_eq_true c35
                                  clear c35
                                  by_cases c36 : x11_2 ≤ (t149.length : Int)
                                  · rw [if_pos c36] at H
                                    have c36b0 := eq_true c36
                                    have c36b1 : decide (x11_2 ≤ (t149.length : Int)) = true := decide_eq_true c36
                                    clear c36
                                    obtain ⟨y165, hy165⟩ : ∃ y_ : List ByteArray, y_ = (t149.take (x11_2 : Int).toNat) := ⟨_, rfl⟩
                                    replace H : (if 0 ≤ x13_4 then ((flagstoneref1_Has.f k4 y165 (rdOf ByteArray.empty t162 x13_4)).bind fun t170 => (if t170 = true then (flagstonelaw10_GraphAfter.l1 k4 t143 t146 t149 x11_2 t162 (wrap64 (x13_4 + 1))) else (none))) else (none)) = some r := by first | (rw [hy165]; with_reducible exact H) | (have H2_ := (Option.bind_some _ _).symm.trans H; rw [hy165]; with_reducible exact H2_) | (have H2_ := (Option.bind_some _ _).symm.trans H; with_reducible exact H2_) | with_reducible exact H | (rw [hy165]; exact H) | exact H
                                    have Ny165 := Aside0.mk hy165
                                    clear hy165
                                    by_cases c37 : 0 ≤ x13_4
                                    · rw [if_pos c37] at H
                                      have c37b0 : decide (0 ≤ x13_4) = true := decide_eq_true c37
                                      clear c37
                                      replace H := Option.bind_eq_some_iff.mp H
                                      obtain ⟨t170, A380, H⟩ := H
                                      replace H : (if t170 = true then (flagstonelaw10_GraphAfter.l1 k4 t143 t146 t149 x11_2 t162 (wrap64 (x13_4 + 1))) else (none)) = some r := H
                                      have A38 := Aside0.mk A380
                                      clear A380
                                      by_cases c39 : t170 = true
                                      · subst c39
                                        have H1 : (flagstonelaw10_GraphAfter.l1 k4 t143 t146 t149 x11_2 t162 (wrap64 (x13_4 + 1))) = some r := by rw [if_pos rfl] at H; exact H
                                        clear H
                                        have H := H1
                                        clear H1
                                        have H' := Aside0.mk H
                                        clear H
                                        obtain ⟨Ao40, co40, eo40⟩ := Kd.R_slice HO_12.out
                                        subst eo40
                                        have q41 : (x11_2 : Int) ≤ ((t149.length : Int) : Int) := of_decide_eq_true (by first | (with_reducible assumption) | assumption)
                                        obtain ⟨i041, hi041, _, hsz41, _⟩ := info_parts info9
                                        have hroom41 : t149.length ≤ co21 := (Kd.R_reads' HO_9.out).2.1
                                        have hC41 : Kd.C Kd.string _ (some ad161) t149.length t149 := (Kd.R_reads' HO_9.out).2.2
                                        have hcut41 := cut_to (P := Try.prog) 23 9 .i64 Try.underlying23 hi041 (some ad161) t149.length co21 x11_2 (of_decide_eq_true (by first | (with_reducible assumption) | assumption)) q41 hroom41
                                        have hr41 := Kd.C_take (m := (x11_2 : Int).toNat) hC41 (by omega)
                                        have hy41 : y165.length = (x11_2 : Int).toNat := (by rw [Ny165.out, List.length_take]; omega)
                                        rw [← Ny165.out] at hr41
                                        rw [← hy41] at hcut41
                                        have HR168 := Aside0.mk hr41
                                        have HC168 := Aside0.mk (show y165.length ≤ co21 from by omega)
                                        clear hr41 hC41 hroom41 hi041 hsz41
                                        have KY41 := Aside0.mk hy41
                                        clear hy41
                                        have KL41 := Aside0.mk (show (x11_2 : Int).toNat ≤ t149.length from by omega)
                                        replace q41 := eq_true q41
                                        have p169 : 0 ≤ (x13_4 : Int) := of_decide_eq_true (by first | (with_reducible assumption) | assumption)
                                        have q169 : x13_4 < (t162.length : Int) := of_decide_eq_true (by first | (with_reducible assumption) | assumption)
                                        obtain ⟨ad169, e169, hx169_0⟩ := Kd.at_string (Kd.R_reads' HO_12.out).2.2 x13_4 p169 q169
                                        cases e169
                                        replace p169 := eq_true p169
                                        replace q169 := eq_true q169
                                        go_wp2_with (first | (go_at_call 13; (with_reducible refine (flagstoneref1_Has.calls k4 _ _ y165 (rdOf ByteArray.empty t162 x13_4) true _ ?side1 ?side2 A38.out).mono ?_); (case side1 => repeat (first | exact (by repeat (first | (with_reducible exact HR168.out) | (with_reducible refine Kd.C_alloc ?_ _) | (with_reducible refine Kd.C_drewN ?_ _) | (with_reducible refine Kd.C_drew ?_) | exact HR168.out)) | (with_reducible refine Kd.C_alloc ?_ _) | (with_reducible refine Kd.C_drewN ?_ _) | (with_reducible refine Kd.C_drew ?_))); (case side2 => exact HC168.out); rintro e w' ⟨rfl, ⟨nd, rfl⟩⟩; (try first | exact ⟨rfl, _, World.drewN_drewN _ _ _⟩ | exact ⟨rfl, _, Eq.trans (World.drewN_drewN _ _ _) (congrArg (World.drewN _) (Nat.add_assoc _ _ _))⟩)))
                                        repeat (go_quiet (first | (go_at_call 13; (with_reducible refine (flagstoneref1_Has.calls k4 _ _ y165 (rdOf ByteArray.empty t162 x13_4) true _ ?side1 ?side2 A38.out).mono ?_); (case side1 => repeat (first | exact (by repeat (first | (with_reducible exact HR168.out) | (with_reducible refine Kd.C_alloc ?_ _) | (with_reducible refine Kd.C_drewN ?_ _) | (with_reducible refine Kd.C_drew ?_) | exact HR168.out)) | (with_reducible refine Kd.C_alloc ?_ _) | (with_reducible refine Kd.C_drewN ?_ _) | (with_reducible refine Kd.C_drew ?_))); (case side2 => exact HC168.out); rintro e w' ⟨rfl, ⟨nd, rfl⟩⟩; (try first | exact ⟨rfl, _, World.drewN_drewN _ _ _⟩ | exact ⟨rfl, _, Eq.trans (World.drewN_drewN _ _ _) (congrArg (World.drewN _) (Nat.add_assoc _ _ _))⟩))); try go_wp2_with (first | (go_at_call 13; (with_reducible refine (flagstoneref1_Has.calls k4 _ _ y165 (rdOf ByteArray.empty t162 x13_4) true _ ?side1 ?side2 A38.out).mono ?_); (case side1 => repeat (first | exact (by repeat (first | (with_reducible exact HR168.out) | (with_reducible refine Kd.C_alloc ?_ _) | (with_reducible refine Kd.C_drewN ?_ _) | (with_reducible refine Kd.C_drew ?_) | exact HR168.out)) | (with_reducible refine Kd.C_alloc ?_ _) | (with_reducible refine Kd.C_drewN ?_ _) | (with_reducible refine Kd.C_drew ?_))); (case side2 => exact HC168.out); rintro e w' ⟨rfl, ⟨nd, rfl⟩⟩; (try first | exact ⟨rfl, _, World.drewN_drewN _ _ _⟩ | exact ⟨rfl, _, Eq.trans (World.drewN_drewN _ _ _) (congrArg (World.drewN _) (Nat.add_assoc _ _ _))⟩))))
                                        go_roundg k4
                                        case measure => have := HJ8.out; have := HK2.out; have := HJ19.out; have := HK4.out; omega
                                        case rel => exact ⟨(wrap64 (x13_4 + 1)), (by first | rfl | (simp; done) | (simp [*]; done)), H', ⟨by have := HJ8.out; have := HK2.out; have := HJ19.out; have := HK4.out; omega⟩, ⟨by (with_reducible repeat (first | apply Kd.R_alloc | apply Kd.R_drewN | apply Kd.R_drew)); exact HO_7.out⟩, ⟨by (with_reducible repeat (first | apply Kd.R_alloc | apply Kd.R_drewN | apply Kd.R_drew)); exact HO_8.out⟩, ⟨by (with_reducible repeat (first | apply Kd.R_alloc | apply Kd.R_drewN | apply Kd.R_drew)); exact HO_9.out⟩, ⟨by (with_reducible repeat (first | apply Kd.R_alloc | apply Kd.R_drewN | apply Kd.R_drew)); exact HO_12.out⟩, ⟨by repeat (first | (with_reducible first | exact HB.out | apply below_alloc | apply pw_below_drewN | apply below_drew1) | exact HB.out)⟩⟩
                                      · replace c39 := Bool.eq_false_iff.mpr c39
                                        subst c39
                                        have H1 : (none) = some r := by rw [if_neg (show ¬ (false = true) by decide)] at H; exact H
                                        clear H
                                        have H := H1
                                        clear H1
                                        exact absurd H (by simp)
                                    · rw [if_neg c37] at H
                                      exact absurd H (by simp)
                                  · rw [if_neg c36] at H
                                    exact absurd H (by simp)
                                · rw [if_neg c35] at H
                                  exact absurd H (by simp)
                              · rw [if_neg c34] at H
                                have c34b0 : decide (x13_4 < (t162.length : Int)) = false := decide_eq_false c34
                                clear c34
                                have H' := Aside0.mk H
                                clear H
                                obtain ⟨Ao42, co42, eo42⟩ := Kd.R_slice HO_12.out
                                subst eo42
                                go_wp2
                                repeat (go_quiet (fail); try go_wp2)
                                go_roundg k4
                                case measure => have := HJ8.out; have := HK2.out; have := HJ19.out; have := HK4.out; omega
                                case rel => exact ⟨(wrap64 (x11_2 + 1)), (by first | rfl | (simp; done) | (simp [*]; done)), H', ⟨by have := HJ8.out; have := HK2.out; have := HJ19.out; have := HK4.out; omega⟩, ⟨by (with_reducible repeat (first | apply Kd.R_alloc | apply Kd.R_drewN | apply Kd.R_drew)); exact Kd.R_mono HO_7.out (fun _ hk => hk.1)⟩, ⟨by (with_reducible repeat (first | apply Kd.R_alloc | apply Kd.R_drewN | apply Kd.R_drew)); exact HO_8.out⟩, ⟨by (with_reducible repeat (first | apply Kd.R_alloc | apply Kd.R_drewN | apply Kd.R_drew)); exact Kd.R_mono HO_9.out (fun _ hk => hk.1)⟩, ⟨by repeat (first | (with_reducible first | exact HB.out | apply below_alloc | apply pw_below_drewN | apply below_drew1) | exact HB.out)⟩⟩
                        · rw [if_neg c31] at H
                          exact absurd H (by simp)
                      · rw [if_neg c30] at H
                        exact absurd H (by simp)
              · rw [if_neg c19] at H
                have c19b0 : decide (x11_2 < (t149.length : Int)) = false := decide_eq_false c19
                clear c19
                obtain rfl := Option.some.inj H
                obtain ⟨Ao43, co43, eo43⟩ := Kd.R_slice HO_9.out
                subst eo43
                go_wp2
                repeat (go_quiet (fail); try go_wp2)
                go_ret
                exact ⟨by first | rfl | (simp [errW_none, errW_some] <;> rfl) | (simp [*, errW_none, errW_some] <;> rfl), by repeat (first | (with_reducible first | exact HB.out | apply below_alloc | apply pw_below_drewN | apply below_drew1) | exact HB.out)⟩
  · replace c5 := Bool.eq_false_iff.mpr c5
    subst c5
    have H1 : (none) = some r := by rw [if_neg (show ¬ (false = true) by decide)] at H; exact H
    clear H
    have H := H1
    clear H1
    exact absurd H (by simp)

/-- THE ONE PURE STATEMENT of flagstonelaw10_GraphAfter: yours. -/
noncomputable def flagstonelaw10_GraphAfter.Pure : Prop := ∀ (a0 : Int) (a1 : Int) (l2 : List Int), (Lit.int .i64 a0).wf = true → (Lit.int .i64 a1).wf = true → l2.length ≤ maxLen → l2.length * 1 ≤ 140737488351232 → (∀ x ∈ l2, (Lit.int .u8 x).wf = true) → ∃ k, flagstonelaw10_GraphAfter.f k a0 a1 l2 = some true
theorem flagstonelaw10_GraphAfter.walk (P : flagstonelaw10_GraphAfter.Pure) (a0 : Int) (a1 : Int) (a2 : Option Addr) (len2 cap2 : Nat) (z2 : List Int) (w : World) (w0 : (Lit.int .i64 a0).wf = true) (w1 : (Lit.int .i64 a1).wf = true) (w2 : (a2 = none ∧ len2 = 0 ∧ cap2 = 0 ∧ z2 = []) ∨ ∃ x, a2 = some x ∧ len2 ≤ cap2 ∧ cap2 ≤ maxLen ∧ z2.length = cap2 ∧ (∀ i, i < z2.length → w.cell? (x.add i) = some (.int .u8 (z2.getD i 0))) ∧ ∀ n ∈ z2, (Lit.int .u8 n).wf = true) (y2 : len2 * 1 ≤ 140737488351232) :
    Calls Try.prog 4 #[.int .i64 a0, .int .i64 a1, .slice a2 len2 cap2] w fun e w' => e = .returned (.bool true) ∧ Below w.heap.size w w' := by
  obtain ⟨l2, rfl, hr2, hm2, hw2, hc2⟩ := ReadsInt.ofRowC w2
  obtain ⟨k, h⟩ := P a0 a1 l2 w0 w1 hm2 y2 hw2
  refine (flagstonelaw10_GraphAfter.calls k a0 a1 _ _ l2 true w (Kd.C_of_reads (d := (0 : Int)) (h1 := fun _ => rfl) hr2) hc2 h).mono ?_
  rintro e w' ⟨rfl, hd⟩
  exact ⟨rfl, hd⟩

end Go.Proofs.Ytkmcepeejleahaa.Q
