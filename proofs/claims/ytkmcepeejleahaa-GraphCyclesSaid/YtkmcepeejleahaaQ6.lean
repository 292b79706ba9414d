-- laid by wip/tools/qprint.py, a program of this session, out of the translation: nothing here is trusted: Lean checks it
import Derived.Test.YtkmcepeejleahaaQ0
import Derived.Test.YtkmcepeejleahaaQ1
import Derived.Test.YtkmcepeejleahaaQ3
import Derived.Test.YtkmcepeejleahaaHC
import Derived.Test.YtkmcepeejleahaaHD
import Derived.Test.YtkmcepeejleahaaHO
namespace Go.Proofs.Ytkmcepeejleahaa.Q
open Go.RowKit Go.Proofs.YtkmcepeejleahaaW.PrintWords Go.Proofs.YtkmcepeejleahaaW.PrintLast Go.Proofs.YtkmcepeejleahaaW.PrintMore
attribute [local go_sem] max2_int min2_int max_two min_two max_three min_three max_four min_four   -- for this text's walks alone
set_option linter.unusedVariables false
set_option linter.unusedSimpArgs false

-- given: graph_Cyclic: function 15
/-! ### flagstonelaw10_GraphCycles: function 5 -/
noncomputable def flagstonelaw10_GraphCycles.l0 : Nat → Int → Int → List (S40) → List ByteArray → Int → List ByteArray → List (S40) → Int → Int → Option (Bool)
  | 0, _, _, _, _, _, _, _, _, _ => none
  | k + 1, x0, x2, x10, x11, x12, x13, x14, x39, x40 => if x40 < x39 then (if 0 ≤ x40 then (if x40 < (x10.length : Int) then (if 0 ≤ (wrap64 ((wrap64 ((x10.length : Int) - 1)) - x40)) then (if (wrap64 ((wrap64 ((x10.length : Int) - 1)) - x40)) < (x14.length : Int) then (flagstonelaw10_GraphCycles.l0 k x0 x2 x10 x11 x12 x13 (x14.set ((wrap64 ((wrap64 ((x10.length : Int) - 1)) - x40)) : Int).toNat (⟨(rd_T40 x10 x40).f0, (rd_T40 x10 x40).f1⟩ : S40)) x39 (wrap64 (x40 + 1))) else (none)) else (none)) else (none)) else (none)) else ((flagstonelaw10_nodes.f x0 x2).bind fun t190 => ((graph_Order.f t190 x14).bind fun bt193 => (if x12 = 0 then (if ((x12 == 12) == (decide ((x13.length : Int) > 0))) = true then (if bt193.2 = x12 then ((flagstoneref1_Same.f k x11 bt193.1).bind fun t197 => (some t197)) else (none)) else (none)) else (if x12 = 12 then (if ((x12 == 12) == (decide ((x13.length : Int) > 0))) = true then (if bt193.2 = x12 then ((flagstoneref1_Same.f k x11 bt193.1).bind fun t198 => (some t198)) else (none)) else (none)) else (none)))))
noncomputable def flagstonelaw10_GraphCycles.f (k : Nat) (a0 : Int) (a1 : Int) (a2 : Int) (l3 : List Int) : Option (Bool) := (flagstonelaw10_awake.f k).bind fun t171 => (if t171 = true then ((flagstonelaw10_nodes.f a0 a1).bind fun t172 => ((flagstonelaw10_edges.f k t172 l3 true).bind fun t175 => ((graph_Order.f t172 t175).bind fun bt178 => ((graph_Cyclic.f t172 t175).bind fun t182 => (if 0 ≤ (t175.length : Int) then (if ((t175.length : Int) : Int).toNat ≤ 8796093022208 then (flagstonelaw10_GraphCycles.l0 k a0 a2 t175 bt178.1 bt178.2 t182 (List.replicate ((t175.length : Int) : Int).toNat z40) (t175.length : Int) 0) else (none)) else (none)))))) else (none))
theorem flagstonelaw10_GraphCycles.mono_l : ∀ k, (∀ y0 y1 y2 y3 y4 y5 y6 y7 y8, LeO (flagstonelaw10_GraphCycles.l0 k y0 y1 y2 y3 y4 y5 y6 y7 y8) (flagstonelaw10_GraphCycles.l0 (k + 1) y0 y1 y2 y3 y4 y5 y6 y7 y8))
  | 0 => fun _ _ _ _ _ _ _ _ _ r h => by simp [flagstonelaw10_GraphCycles.l0] at h
  | k + 1 => by
    have ih0 := flagstonelaw10_GraphCycles.mono_l k
    · intro y0 y1 y2 y3 y4 y5 y6 y7 y8
      unfold flagstonelaw10_GraphCycles.l0
      repeat' first
      | (with_reducible exact ih0 _ _ _ _ _ _ _ _ _)
      | (with_reducible exact flagstonelaw10_awake.mono _)
      | (with_reducible exact flagstonelaw10_edges.mono _ _ _ _)
      | (with_reducible exact flagstoneref1_Same.mono _ _ _)
      | (with_reducible exact LeO.refl _)
      | (with_reducible exact LeO.none _)
      | (with_reducible refine LeO.ite ?_ ?_)
      | (with_reducible refine LeO.bind ?_ (fun _ => ?_))
      | exact ih0 _ _ _ _ _ _ _ _ _
      | exact flagstonelaw10_awake.mono _
      | exact flagstonelaw10_edges.mono _ _ _ _
      | exact flagstoneref1_Same.mono _ _ _
      | exact LeO.none _
      | refine LeO.ite ?_ ?_
      | refine LeO.bind ?_ (fun _ => ?_)
theorem flagstonelaw10_GraphCycles.mono : ∀ a0 a1 a2 a3 k, LeO (flagstonelaw10_GraphCycles.f k a0 a1 a2 a3) (flagstonelaw10_GraphCycles.f (k + 1) a0 a1 a2 a3) := by
  intro a0 a1 a2 a3 k
  have ih0 := flagstonelaw10_GraphCycles.mono_l k
  unfold flagstonelaw10_GraphCycles.f
  repeat' first
      | (with_reducible exact ih0 _ _ _ _ _ _ _ _ _)
      | (with_reducible exact flagstonelaw10_awake.mono _)
      | (with_reducible exact flagstonelaw10_edges.mono _ _ _ _)
      | (with_reducible exact flagstoneref1_Same.mono _ _ _)
      | (with_reducible exact LeO.refl _)
      | (with_reducible exact LeO.none _)
      | (with_reducible refine LeO.ite ?_ ?_)
      | (with_reducible refine LeO.bind ?_ (fun _ => ?_))
      | exact ih0 _ _ _ _ _ _ _ _ _
      | exact flagstonelaw10_awake.mono _
      | exact flagstonelaw10_edges.mono _ _ _ _
      | exact flagstoneref1_Same.mono _ _ _
      | exact LeO.none _
      | refine LeO.ite ?_ ?_
      | refine LeO.bind ?_ (fun _ => ?_)
set_option maxHeartbeats 8000000 in
set_option maxRecDepth 100000 in
theorem flagstonelaw10_GraphCycles.calls (k : Nat) (a0 : Int) (a1 : Int) (a2 : Int) (A3 : Option Addr) (c3 : Nat) (l3 : List Int) (r : Bool) (w : World) (hr3 : Kd.C (Kd.int .u8) w A3 l3.length l3) (hc3 : l3.length ≤ c3) (h : flagstonelaw10_GraphCycles.f k a0 a1 a2 l3 = some r) :
    Calls Try.prog 5 #[.int .i64 a0, .int .i64 a1, .int .i64 a2, .slice A3 l3.length c3] w fun e w' => e = .returned (.bool r) ∧ Below w.heap.size w w' := by
  have hu40 := Try.underlying40
  have HR3 := Aside0.mk hr3
  have HC3 := Aside0.mk hc3
  clear hr3 hc3
  have HB := Aside0.mk (Below.refl w.heap.size w)
  have H : ((flagstonelaw10_awake.f k).bind fun t171 => (if t171 = true then ((flagstonelaw10_nodes.f a0 a1).bind fun t172 => ((flagstonelaw10_edges.f k t172 l3 true).bind fun t175 => ((graph_Order.f t172 t175).bind fun bt178 => ((graph_Cyclic.f t172 t175).bind fun t182 => (if 0 ≤ (t175.length : Int) then (if ((t175.length : Int) : Int).toNat ≤ 8796093022208 then (flagstonelaw10_GraphCycles.l0 k a0 a2 t175 bt178.1 bt178.2 t182 (List.replicate ((t175.length : Int) : Int).toNat z40) (t175.length : Int) 0) else (none)) else (none)))))) else (none))) = some r := h
  clear h
  replace H := Option.bind_eq_some_iff.mp H
  obtain ⟨t171, A50, H⟩ := H
  replace H : (if t171 = true then ((flagstonelaw10_nodes.f a0 a1).bind fun t172 => ((flagstonelaw10_edges.f k t172 l3 true).bind fun t175 => ((graph_Order.f t172 t175).bind fun bt178 => ((graph_Cyclic.f t172 t175).bind fun t182 => (if 0 ≤ (t175.length : Int) then (if ((t175.length : Int) : Int).toNat ≤ 8796093022208 then (flagstonelaw10_GraphCycles.l0 k a0 a2 t175 bt178.1 bt178.2 t182 (List.replicate ((t175.length : Int) : Int).toNat z40) (t175.length : Int) 0) else (none)) else (none)))))) else (none)) = some r := H
  have A5 := Aside0.mk A50
  clear A50
  by_cases c6 : t171 = true
  · subst c6
    have H1 : ((flagstonelaw10_nodes.f a0 a1).bind fun t172 => ((flagstonelaw10_edges.f k t172 l3 true).bind fun t175 => ((graph_Order.f t172 t175).bind fun bt178 => ((graph_Cyclic.f t172 t175).bind fun t182 => (if 0 ≤ (t175.length : Int) then (if ((t175.length : Int) : Int).toNat ≤ 8796093022208 then (flagstonelaw10_GraphCycles.l0 k a0 a2 t175 bt178.1 bt178.2 t182 (List.replicate ((t175.length : Int) : Int).toNat z40) (t175.length : Int) 0) else (none)) else (none)))))) = some r := by rw [if_pos rfl] at H; exact H
    clear H
    have H := H1
    clear H1
    replace H := Option.bind_eq_some_iff.mp H
    obtain ⟨t172, A70, H⟩ := H
    replace H : ((flagstonelaw10_edges.f k t172 l3 true).bind fun t175 => ((graph_Order.f t172 t175).bind fun bt178 => ((graph_Cyclic.f t172 t175).bind fun t182 => (if 0 ≤ (t175.length : Int) then (if ((t175.length : Int) : Int).toNat ≤ 8796093022208 then (flagstonelaw10_GraphCycles.l0 k a0 a2 t175 bt178.1 bt178.2 t182 (List.replicate ((t175.length : Int) : Int).toNat z40) (t175.length : Int) 0) else (none)) else (none))))) = some r := H
    have A7 := Aside0.mk A70
    clear A70
    replace H := Option.bind_eq_some_iff.mp H
    obtain ⟨t175, A80, H⟩ := H
    replace H : ((graph_Order.f t172 t175).bind fun bt178 => ((graph_Cyclic.f t172 t175).bind fun t182 => (if 0 ≤ (t175.length : Int) then (if ((t175.length : Int) : Int).toNat ≤ 8796093022208 then (flagstonelaw10_GraphCycles.l0 k a0 a2 t175 bt178.1 bt178.2 t182 (List.replicate ((t175.length : Int) : Int).toNat z40) (t175.length : Int) 0) else (none)) else (none)))) = some r := H
    have A8 := Aside0.mk A80
    clear A80
    replace H := Option.bind_eq_some_iff.mp H
    obtain ⟨⟨t178, t179⟩, A90, H⟩ := H
    replace H : ((graph_Cyclic.f t172 t175).bind fun t182 => (if 0 ≤ (t175.length : Int) then (if ((t175.length : Int) : Int).toNat ≤ 8796093022208 then (flagstonelaw10_GraphCycles.l0 k a0 a2 t175 t178 t179 t182 (List.replicate ((t175.length : Int) : Int).toNat z40) (t175.length : Int) 0) else (none)) else (none))) = some r := H
    have A9 := Aside0.mk A90
    clear A90
    replace H := Option.bind_eq_some_iff.mp H
    obtain ⟨t182, A100, H⟩ := H
    replace H : (if 0 ≤ (t175.length : Int) then (if ((t175.length : Int) : Int).toNat ≤ 8796093022208 then (flagstonelaw10_GraphCycles.l0 k a0 a2 t175 t178 t179 t182 (List.replicate ((t175.length : Int) : Int).toNat z40) (t175.length : Int) 0) else (none)) else (none)) = some r := H
    have A10 := Aside0.mk A100
    clear A100
    by_cases c11 : 0 ≤ (t175.length : Int)
    · rw [if_pos c11] at H
      have c11b0 := eq_true c11
      have c11b1 : decide (0 ≤ (t175.length : Int)) = true := decide_eq_true c11
      clear c11
      by_cases c12 : ((t175.length : Int) : Int).toNat ≤ 8796093022208
      · rw [if_pos c12] at H
        have c12b0 := eq_true c12
        have c12b1 : decide (((t175.length : Int) : Int).toNat ≤ 8796093022208) = true := decide_eq_true c12
        clear c12
        obtain ⟨y185, hy185⟩ : ∃ y_ : List (S40), y_ = (List.replicate ((t175.length : Int) : Int).toNat z40) := ⟨_, rfl⟩
        replace H : (flagstonelaw10_GraphCycles.l0 k a0 a2 t175 t178 t179 t182 y185 (t175.length : Int) 0) = some r := by first | (rw [hy185]; with_reducible exact H) | (have H2_ := (Option.bind_some _ _).symm.trans H; rw [hy185]; with_reducible exact H2_) | (have H2_ := (Option.bind_some _ _).symm.trans H; with_reducible exact H2_) | with_reducible exact H | (rw [hy185]; exact H) | exact H
        have Ny185 := Aside0.mk hy185
        clear hy185
        have H' := Aside0.mk H
        clear H
        go_enter Try.func5, Try.ntmps5
        go_wp2_with (first | ((with_reducible refine gate_callee (f := 7) rfl ?_); refine goesL_ (some 18) rfl rfl Try.func7 (by kernel_rfl) rfl #[] rfl (by (try simp only [List.map_toArray, List.map_cons, List.map_nil]); first | done | rfl | (simp only [List.length_drop, List.length_take]; rfl)) ?_; (with_reducible refine (flagstonelaw10_awake.calls k  true _ A5.out).mono ?_); rintro e w13 ⟨rfl, hb⟩; refine ⟨_, rfl, ?_⟩; have n0_ := Aside0.mk (below_step (by repeat (first | (with_reducible first | exact HB.out | apply below_alloc | apply pw_below_drewN | apply below_drew1) | exact HB.out)) hb); clear HB; have HB := n0_; clear n0_; (try clear hb); (try clear hb2); (try clear hk); (try clear hi)) | ((with_reducible refine gate_callee (f := 8) rfl ?_); refine goesL_ (some 22) rfl rfl Try.func8 (by kernel_rfl) rfl #[.int .i64 a0, .int .i64 a1] rfl (by (try simp only [List.map_toArray, List.map_cons, List.map_nil]); first | done | rfl | (simp only [List.length_drop, List.length_take]; rfl)) ?_; (with_reducible refine (flagstonelaw10_nodes.calls a0 a1 t172 _ A7.out).mono ?_); rintro e w14 ⟨v173, rfl, ho0, hb⟩; refine ⟨_, rfl, ?_⟩; have n0_ := Aside0.mk (Kd.R_lower ho0 (below_size (by repeat (first | (with_reducible first | exact HB.out | apply below_alloc | apply pw_below_drewN | apply below_drew1) | exact HB.out)))); have n1_ := Aside0.mk (below_step (by repeat (first | (with_reducible first | exact HB.out | apply below_alloc | apply pw_below_drewN | apply below_drew1) | exact HB.out)) hb); clear HB; have HO174 := n0_; have HB := n1_; clear n0_ n1_; (try clear hb); (try clear hb2); (try clear hk); (try clear hi); (try clear ho0); obtain ⟨Ao15, co15, eo15⟩ := Kd.R_slice HO174.out; subst eo15) | ((with_reducible refine gate_callee (f := 9) rfl ?_); refine goesL_ (some 25) rfl rfl Try.func9 (by kernel_rfl) rfl #[.slice Ao15 t172.length co15, .slice A3 l3.length c3, .bool true] rfl (by (try simp only [List.map_toArray, List.map_cons, List.map_nil]); first | done | rfl | (simp only [List.length_drop, List.length_take]; rfl)) ?_; (with_reducible refine (flagstonelaw10_edges.calls k _ _ t172 _ _ l3 true t175 _ ?side1 ?side2 ?side3 ?side4 A8.out).mono ?_); (case side1 => repeat (first | exact (Kd.R_reads' HO174.out).2.2 | (with_reducible refine Kd.C_alloc ?_ _) | (with_reducible refine Kd.C_drewN ?_ _) | (with_reducible refine Kd.C_drew ?_))); (case side2 => exact (Kd.R_reads' HO174.out).2.1); (case side3 => repeat (first | exact (Kd.C_below HR3.out HB.out) | (with_reducible refine Kd.C_alloc ?_ _) | (with_reducible refine Kd.C_drewN ?_ _) | (with_reducible refine Kd.C_drew ?_))); (case side4 => exact HC3.out); rintro e w16 ⟨v176, rfl, ho0, hb⟩; refine ⟨_, rfl, ?_⟩; have n0_ := Aside0.mk (Kd.R_below (by (with_reducible repeat (first | apply Kd.R_alloc | apply Kd.R_drewN | apply Kd.R_drew)); exact HO174.out) hb); have n1_ := Aside0.mk (Kd.R_lower ho0 (below_size (by repeat (first | (with_reducible first | exact HB.out | apply below_alloc | apply pw_below_drewN | apply below_drew1) | exact HB.out)))); have n2_ := Aside0.mk (below_step (by repeat (first | (with_reducible first | exact HB.out | apply below_alloc | apply pw_below_drewN | apply below_drew1) | exact HB.out)) hb); clear HO174; clear HB; have HO174 := n0_; have HO177 := n1_; have HB := n2_; clear n0_ n1_ n2_; (try clear hb); (try clear hb2); (try clear hk); (try clear hi); (try clear ho0); obtain ⟨Ao17, co17, eo17⟩ := Kd.R_slice HO177.out; subst eo17) | ((with_reducible refine gate_callee (f := 10) rfl ?_); refine goesL_ (some 29) rfl rfl Try.func10 (by kernel_rfl) rfl #[.slice Ao15 t172.length co15, .slice Ao17 t175.length co17] rfl (by (try simp only [List.map_toArray, List.map_cons, List.map_nil]); first | done | rfl | (simp only [List.length_drop, List.length_take]; rfl)) ?_; (with_reducible refine (graph_Order.calls _ _ t172 _ _ t175 t178 t179 _ ?side1 ?side2 ?side3 ?side4 A9.out).mono ?_); (case side1 => repeat (first | exact (Kd.R_reads' HO174.out).2.2 | (with_reducible refine Kd.C_alloc ?_ _) | (with_reducible refine Kd.C_drewN ?_ _) | (with_reducible refine Kd.C_drew ?_))); (case side2 => exact (Kd.R_reads' HO174.out).2.1); (case side3 => repeat (first | exact (Kd.R_reads' HO177.out).2.2 | (with_reducible refine Kd.C_alloc ?_ _) | (with_reducible refine Kd.C_drewN ?_ _) | (with_reducible refine Kd.C_drew ?_))); (case side4 => exact (Kd.R_reads' HO177.out).2.1); rintro e w18 ⟨v180, rfl, ho0, hb⟩; refine ⟨_, rfl, ?_⟩; have n0_ := Aside0.mk (Kd.R_elder' (by (with_reducible repeat (first | apply Kd.R_alloc | apply Kd.R_drewN | apply Kd.R_drew)); exact HO174.out) (Kd.R_base ho0) hb); have n1_ := Aside0.mk (Kd.R_below (by (with_reducible repeat (first | apply Kd.R_alloc | apply Kd.R_drewN | apply Kd.R_drew)); exact HO177.out) hb); have n2_ := Aside0.mk (Kd.R_lower (Kd.R_new' ho0 (Kd.R_lt (by (with_reducible repeat (first | apply Kd.R_alloc | apply Kd.R_drewN | apply Kd.R_drew)); exact HO174.out))) (below_size (by repeat (first | (with_reducible first | exact HB.out | apply below_alloc | apply pw_below_drewN | apply below_drew1) | exact HB.out)))); have n3_ := Aside0.mk (below_step (by repeat (first | (with_reducible first | exact HB.out | apply below_alloc | apply pw_below_drewN | apply below_drew1) | exact HB.out)) hb); clear HO174; clear HO177; clear HB; have HO174 := n0_; have HO177 := n1_; have HO181 := n2_; have HB := n3_; clear n0_ n1_ n2_ n3_; (try clear hb); (try clear hb2); (try clear hk); (try clear hi); (try clear ho0)) | ((with_reducible refine gate_callee (f := 15) rfl ?_); refine goesL_ (some 34) rfl rfl Try.func15 (by kernel_rfl) rfl #[.slice Ao15 t172.length co15, .slice Ao17 t175.length co17] rfl (by (try simp only [List.map_toArray, List.map_cons, List.map_nil]); first | done | rfl | (simp only [List.length_drop, List.length_take]; rfl)) ?_; (with_reducible refine (graph_Cyclic.calls _ _ t172 _ _ t175 t182 _ ?side1 ?side2 ?side3 ?side4 A10.out).mono ?_); (case side1 => repeat (first | exact (Kd.R_reads' HO174.out).2.2 | (with_reducible refine Kd.C_alloc ?_ _) | (with_reducible refine Kd.C_drewN ?_ _) | (with_reducible refine Kd.C_drew ?_))); (case side2 => exact (Kd.R_reads' HO174.out).2.1); (case side3 => repeat (first | exact (Kd.R_reads' HO177.out).2.2 | (with_reducible refine Kd.C_alloc ?_ _) | (with_reducible refine Kd.C_drewN ?_ _) | (with_reducible refine Kd.C_drew ?_))); (case side4 => exact (Kd.R_reads' HO177.out).2.1); rintro e w19 ⟨v183, rfl, ho0, hb⟩; refine ⟨_, rfl, ?_⟩; have n0_ := Aside0.mk (Kd.R_elder' (by (with_reducible repeat (first | apply Kd.R_alloc | apply Kd.R_drewN | apply Kd.R_drew)); exact HO174.out) (Kd.R_base ho0) hb); have n1_ := Aside0.mk (Kd.R_below (by (with_reducible repeat (first | apply Kd.R_alloc | apply Kd.R_drewN | apply Kd.R_drew)); exact HO177.out) hb); have n2_ := Aside0.mk (Kd.R_elder' (by (with_reducible repeat (first | apply Kd.R_alloc | apply Kd.R_drewN | apply Kd.R_drew)); exact HO181.out) (Kd.R_base ho0) hb); have n3_ := Aside0.mk (Kd.R_lower (Kd.R_new' (Kd.R_new' ho0 (Kd.R_lt (by (with_reducible repeat (first | apply Kd.R_alloc | apply Kd.R_drewN | apply Kd.R_drew)); exact HO174.out))) (Kd.R_lt (by (with_reducible repeat (first | apply Kd.R_alloc | apply Kd.R_drewN | apply Kd.R_drew)); exact HO181.out))) (below_size (by repeat (first | (with_reducible first | exact HB.out | apply below_alloc | apply pw_below_drewN | apply below_drew1) | exact HB.out)))); have n4_ := Aside0.mk (below_step (by repeat (first | (with_reducible first | exact HB.out | apply below_alloc | apply pw_below_drewN | apply below_drew1) | exact HB.out)) hb); clear HO174; clear HO177; clear HO181; clear HB; have HO174 := n0_; have HO177 := n1_; have HO181 := n2_; have HO184 := n3_; have HB := n4_; clear n0_ n1_ n2_ n3_ n4_; (try clear hb); (try clear hb2); (try clear hk); (try clear hi); (try clear ho0)) | ((with_reducible refine gate_dst (N := 37) rfl ?_); refine Kd.R_make k40 _ 40 rfl (N := 37) rfl 24 _ _ rfl (t175.length : Int) rfl rfl Try.underlying24 (.agg #[(.string ⟨#[]⟩), (.string ⟨#[]⟩)]) 32 info40 rfl (by decide) (by omega) z40 (ok := fun _ => True) (okp := fun _ => True) (k40_mkM _ _ _ z40 ) (fun _ hk => hk) trivial (of_decide_eq_true (by first | (with_reducible assumption) | assumption)) (Nat.le_trans (Nat.mul_le_mul_right _ (of_decide_eq_true (by first | (with_reducible assumption) | assumption) : (t175.length : Int).toNat ≤ 8796093022208)) (by omega)) (Below.refl _ _) (Nat.le_refl _) ?_; intro v186 w20 ho21 hb hg_ hnew_; clear hg_ hnew_; (first | rw [← Ny185.out] at ho21 | (simp only [Int.reduceToNat] at ho21; rw [← Ny185.out] at ho21)); have n0_ := Aside0.mk (Kd.R_below (by (with_reducible repeat (first | apply Kd.R_alloc | apply Kd.R_drewN | apply Kd.R_drew)); exact HO174.out) hb); have n1_ := Aside0.mk (Kd.R_elder' (by (with_reducible repeat (first | apply Kd.R_alloc | apply Kd.R_drewN | apply Kd.R_drew)); exact HO177.out) (Kd.R_base ho21) hb); have n2_ := Aside0.mk (Kd.R_below (by (with_reducible repeat (first | apply Kd.R_alloc | apply Kd.R_drewN | apply Kd.R_drew)); exact HO181.out) hb); have n3_ := Aside0.mk (Kd.R_below (by (with_reducible repeat (first | apply Kd.R_alloc | apply Kd.R_drewN | apply Kd.R_drew)); exact HO184.out) hb); have n4_ := Aside0.mk (Kd.R_lower (Kd.R_new' ho21 (Kd.R_lt (by (with_reducible repeat (first | apply Kd.R_alloc | apply Kd.R_drewN | apply Kd.R_drew)); exact HO177.out))) (below_size (by repeat (first | (with_reducible first | exact HB.out | apply below_alloc | apply pw_below_drewN | apply below_drew1) | exact HB.out)))); have n5_ := Aside0.mk (below_step (by repeat (first | (with_reducible first | exact HB.out | apply below_alloc | apply pw_below_drewN | apply below_drew1) | exact HB.out)) hb); clear HO174; clear HO177; clear HO181; clear HO184; clear HB; have HO174 := n0_; have HO177 := n1_; have HO181 := n2_; have HO184 := n3_; have HO187 := n4_; have HB := n5_; clear n0_ n1_ n2_ n3_ n4_ n5_; clear hb ho21))
        go_loopg [40] k (fun kq v40 w' => ∃ (x14_1 : List (S40)) (x40_1 : Int), v40 = .int .i64 x40_1 ∧ Aside0 (flagstonelaw10_GraphCycles.l0 kq a0 a2 t175 t178 t179 t182 x14_1 (t175.length : Int) x40_1 = some r) ∧ Aside0 (kq ≤ k) ∧ Aside0 (Kd.R k40 40 w' w.heap.size (fun k_ => some k_ ≠ (v186 : Value).ownBlock) (.slice Ao17 t175.length co17) t175) ∧ Aside0 (Kd.R Kd.string 9 w' w.heap.size (fun k_ => some k_ ≠ (v183 : Value).ownBlock) v180 t178) ∧ Aside0 (Kd.R Kd.string 9 w' w.heap.size (fun k_ => some k_ ≠ (v180 : Value).ownBlock) v183 t182) ∧ Aside0 (Kd.R k40 40 w' w.heap.size (fun k_ => some k_ ≠ ((.slice Ao17 t175.length co17) : Value).ownBlock) v186 x14_1) ∧ Aside0 (Below w.heap.size w w'))
        case atStart => exact ⟨(y185), (0), (by first | rfl | (simp; done) | (simp [*]; done)), H', ⟨Nat.le_refl _⟩, ⟨by (with_reducible repeat (first | apply Kd.R_alloc | apply Kd.R_drewN | apply Kd.R_drew)); exact Kd.R_mono HO177.out (fun _ hk => hk.2)⟩, ⟨by (with_reducible repeat (first | apply Kd.R_alloc | apply Kd.R_drewN | apply Kd.R_drew)); exact Kd.R_mono HO181.out (fun _ hk => hk.2)⟩, ⟨by (with_reducible repeat (first | apply Kd.R_alloc | apply Kd.R_drewN | apply Kd.R_drew)); exact Kd.R_mono HO184.out (fun _ hk => hk.2)⟩, ⟨by (with_reducible repeat (first | apply Kd.R_alloc | apply Kd.R_drewN | apply Kd.R_drew)); exact Kd.R_mono HO187.out (fun _ hk => hk.2)⟩, ⟨by repeat (first | (with_reducible first | exact HB.out | apply below_alloc | apply pw_below_drewN | apply below_drew1) | exact HB.out)⟩⟩
        case round =>
          clear H'
          try clear c1
          try clear p2
          try clear c3
          try clear c5
          try clear c6
          try clear c7
          try clear c8
          try clear c9
          try clear c10
          try clear c11
          try clear c11b0
          try clear c11b1
          try clear c12
          try clear c12b0
          try clear c12b1
          try clear c15
          obtain ⟨x14_1, x40_1, rfl, HA, HK1, HO_10, HO_11, HO_13, HO_14, HB⟩ := hrel
          cases gk with
          | zero => exact absurd HA.out (by simp [flagstonelaw10_GraphCycles.l0])
          | succ k1 =>
            have H := HA.out
            clear HA
            simp only [flagstonelaw10_GraphCycles.l0] at H
            by_cases c22 : x40_1 < (t175.length : Int)
            · rw [if_pos c22] at H
              have c22b0 : decide (x40_1 < (t175.length : Int)) = true := decide_eq_true c22
              clear c22
              by_cases c23 : 0 ≤ x40_1
              · rw [if_pos c23] at H
                have c23b0 : decide (0 ≤ x40_1) = true := decide_eq_true c23
                clear c23
                by_cases c24 : x40_1 < (t175.length : Int)
                · rw [if_pos c24] at H
                  have c24b0 : decide (x40_1 < (t175.length : Int)) = true := decide_eq_true c24
                  clear c24
                  obtain ⟨ji25, hji25⟩ : ∃ j_ : Int, (wrap64 ((wrap64 ((t175.length : Int) - 1)) - x40_1)) = j_ := ⟨_, rfl⟩
                  replace H : (if 0 ≤ (ji25) then (if (ji25) < (x14_1.length : Int) then (flagstonelaw10_GraphCycles.l0 k1 a0 a2 t175 t178 t179 t182 (x14_1.set ((ji25) : Int).toNat (⟨(rd_T40 t175 x40_1).f0, (rd_T40 t175 x40_1).f1⟩ : S40)) (t175.length : Int) (wrap64 (x40_1 + 1))) else (none)) else (none)) = some r := by first | (rw [hji25] at H; exact H) | (simp only [hji25] at H ⊢; exact H)
                  have hji25w : (IntKind.i64.wrap ((wrap64 ((t175.length : Int) - 1)) - x40_1)) = ji25 := (i64_w _).trans hji25
                  by_cases c26 : 0 ≤ (ji25)
                  · rw [if_pos c26] at H
                    have c26b0 : decide (0 ≤ (ji25)) = true := decide_eq_true c26
                    clear c26
                    by_cases c27 : (ji25) < (x14_1.length : Int)
                    · rw [if_pos c27] at H
                      have c27b0 : decide ((ji25) < (x14_1.length : Int)) = true := decide_eq_true c27
                      clear c27
                      obtain ⟨y189, hy189⟩ : ∃ y_ : List (S40), y_ = (x14_1.set ((ji25) : Int).toNat (⟨(rd_T40 t175 x40_1).f0, (rd_T40 t175 x40_1).f1⟩ : S40)) := ⟨_, rfl⟩
                      replace H : (flagstonelaw10_GraphCycles.l0 k1 a0 a2 t175 t178 t179 t182 y189 (t175.length : Int) (wrap64 (x40_1 + 1))) = some r := by first | (rw [hy189]; with_reducible exact H) | (have H2_ := (Option.bind_some _ _).symm.trans H; rw [hy189]; with_reducible exact H2_) | (have H2_ := (Option.bind_some _ _).symm.trans H; with_reducible exact H2_) | with_reducible exact H | (rw [hy189]; exact H) | exact H
                      have Ny189 := Aside0.mk hy189
                      clear hy189
                      have H' := Aside0.mk H
                      clear H
                      have p188 : 0 ≤ (x40_1 : Int) := of_decide_eq_true (by first | (with_reducible assumption) | assumption)
                      have q188 : x40_1 < (t175.length : Int) := of_decide_eq_true (by first | (with_reducible assumption) | assumption)
                      obtain ⟨ad188, e188, hx188_0, hx188_1⟩ := at_T40 (Kd.R_reads' HO_10.out).2.2 x40_1 p188 q188
                      cases e188
                      replace p188 := eq_true p188
                      replace q188 := eq_true q188
                      have p28 : 0 ≤ ((ji25) : Int) := of_decide_eq_true (by first | (with_reducible assumption) | assumption)
                      have q28 : ((ji25) : Int) < ((x14_1.length : Int) : Int) := of_decide_eq_true (by first | (with_reducible assumption) | assumption)
                      obtain ⟨go28, co28, eo28, gb28, gl28, cl28, HG28⟩ := Kd.R_form HO_14.out (by omega)
                      (first | cases eo28 | (injection eo28 with ea_ en_ ec_; (first | subst ea_ | (injection ea_ with ea_; subst ea_)); subst ec_; clear en_))
                      have GB28 := Aside0.mk gb28
                      have GG28 := Aside0.mk HG28
                      clear gb28 gl28 HG28
                      obtain ⟨ce28, hcl28, hM28, hcc28, hfr28⟩ := Kd.R_elem HO_14.out z40 ((ji25) : Int) p28 q28
                      obtain rfl := k40_openM hM28
                      have hx28_0 : wr.cell? ⟨go28, ((ji25) : Int).toNat * 2, none⟩ = some (.string ((rd_T40 x14_1 (ji25)).f0)) := hcc28 0 _ rfl
                      have hx28_1 : wr.cell? ⟨go28, ((ji25) : Int).toNat * 2 + 1, none⟩ = some (.string ((rd_T40 x14_1 (ji25)).f1)) := hcc28 1 _ rfl
                      have hf28_0 : wr.frozen? ⟨go28, ((ji25) : Int).toNat * 2, none⟩ = false := hfr28 0
                      have hf28_1 : wr.frozen? ⟨go28, ((ji25) : Int).toNat * 2 + 1, none⟩ = false := hfr28 1
                      clear hcl28 hcc28 hfr28 hM28
                      replace p28 := eq_true p28
                      replace q28 := eq_true q28
                      have HX29 := Aside0.mk (show Kd.R k40 40 wr w.heap.size (fun k_ => some k_ ≠ (.slice (some ad188) t175.length co17 : Value).ownBlock) (.slice (some ⟨go28, 0, none⟩) x14_1.length co28) x14_1 from (by (with_reducible repeat (first | apply Kd.R_alloc | apply Kd.R_drewN | apply Kd.R_drew)); exact HO_14.out))
                      obtain ⟨ce29, hcl29, hM29, hcc29, hfr29⟩ := Kd.R_elem HX29.out z40 ((ji25) : Int) (of_decide_eq_true (by first | (with_reducible assumption) | assumption)) (by have h_ : ((ji25) : Int) < ((x14_1.length : Int) : Int) := of_decide_eq_true (by first | (with_reducible assumption) | assumption); first | exact h_ | (have e_ := (Kd.R_reads' HO_14.out).1; omega) | simpa using h_)
                      obtain rfl := k40_openM hM29
                      have HP29 := Kd.R_seg HX29.out ((ji25) : Int) (of_decide_eq_true (by first | (with_reducible assumption) | assumption)) (by have h_ : ((ji25) : Int) < ((x14_1.length : Int) : Int) := of_decide_eq_true (by first | (with_reducible assumption) | assumption); first | exact h_ | (have e_ := (Kd.R_reads' HO_14.out).1; omega) | simpa using h_) (seg := [.string ((rd_T40 t175 x40_1).f0), .string ((rd_T40 t175 x40_1).f1)]) (j := 0) hcl29 hcc29 (show 2 ≤ 2 from by decide) (x' := (⟨(rd_T40 t175 x40_1).f0, (rd_T40 t175 x40_1).f1⟩ : S40)) (k40_mkM _ _ _ (⟨(rd_T40 t175 x40_1).f0, (rd_T40 t175 x40_1).f1⟩ : S40) ) (fun _ hk => hk)
                      have hx29_0 := hcc29 0 _ rfl
                      (try simp only [show (k40).sz = 2 from rfl, Nat.mul_one, Nat.add_zero] at hx29_0)
                      have hf29_0 := hfr29 0
                      (try simp only [show (k40).sz = 2 from rfl, Nat.mul_one, Nat.add_zero] at hf29_0)
                      have hx29_1 := hcc29 1 _ rfl
                      (try simp only [show (k40).sz = 2 from rfl, Nat.mul_one, Nat.add_zero] at hx29_1)
                      have hf29_1 := hfr29 1
                      (try simp only [show (k40).sz = 2 from rfl, Nat.mul_one, Nat.add_zero] at hf29_1)
                      clear hcl29 hcc29 hfr29 hM29
                      go_wp2_with (first | ((with_reducible refine gate_store (t := 40) (p := 53) rfl ?_); refine store_event (t := 40) (p := 53) (v := ?vo_w30) (w1 := ((wr.setCell ⟨go28, ((ji25) : Int).toNat * 2, none⟩ (.string ((rd_T40 t175 x40_1).f0))).setCell ⟨go28, ((ji25) : Int).toNat * 2 + 1, none⟩ (.string ((rd_T40 t175 x40_1).f1)))) ?hg ?ho ?hn ?hr ?_; (case ho => rfl); (case hg => rfl); (case hn => rfl); (case hr => first | (go_simp; done) | (go_simp; rfl)); intro w30 hw; have hg : wr.grownBy w30 (some go28) := (by rw [hw]; exact HP29.2); have hp_ : Kd.R k40 40 w30 w.heap.size (fun k_ => some k_ ≠ (.slice (some ad188) t175.length co17 : Value).ownBlock) (.slice (some ⟨go28, 0, none⟩) x14_1.length co28) y189 := (by rw [hw, Ny189.out]; exact HP29.1); clear HP29; have n0_ := Aside0.mk (Kd.R_after (v := (.slice (some ⟨go28, 0, none⟩) x14_1.length co28)) (v1 := (.slice (some ⟨go28, 0, none⟩) x14_1.length co28)) (ok := (fun _ => True)) (by (with_reducible repeat (first | apply Kd.R_alloc | apply Kd.R_drewN | apply Kd.R_drew)); exact Kd.R_mono HO_10.out (fun _ hk => ⟨trivial, hk⟩)) hg (.inl rfl)); have n1_ := Aside0.mk (Kd.R_over' (v := (.slice (some ⟨go28, 0, none⟩) x14_1.length co28)) (by (with_reducible repeat (first | apply Kd.R_alloc | apply Kd.R_drewN | apply Kd.R_drew)); exact HO_11.out) (Kd.R_typed HO_14.out) (by decide) hg); have n2_ := Aside0.mk (Kd.R_over' (v := (.slice (some ⟨go28, 0, none⟩) x14_1.length co28)) (by (with_reducible repeat (first | apply Kd.R_alloc | apply Kd.R_drewN | apply Kd.R_drew)); exact HO_13.out) (Kd.R_typed HO_14.out) (by decide) hg); have n3_ := Aside0.mk (hp_); have n4_ := Aside0.mk ((by rw [hw]; exact below_set (below_set (HB.out) GB28.out) GB28.out : Below w.heap.size w w30)); clear HO_10; clear HO_11; clear HO_13; clear HO_14; clear HB; have HO_10 := n0_; have HO_11 := n1_; have HO_13 := n2_; have HO_14 := n3_; have HB := n4_; clear n0_ n1_ n2_ n3_ n4_; clear hg hw hp_))
                      go_roundg k1
                      case measure => have := HK1.out; omega
                      case rel => exact ⟨(y189), (wrap64 (x40_1 + 1)), (by first | rfl | (simp; done) | (simp [*]; done)), H', ⟨by have := HK1.out; omega⟩, ⟨by (with_reducible repeat (first | apply Kd.R_alloc | apply Kd.R_drewN | apply Kd.R_drew)); exact Kd.R_mono HO_10.out (fun _ hk => hk.2)⟩, ⟨by (with_reducible repeat (first | apply Kd.R_alloc | apply Kd.R_drewN | apply Kd.R_drew)); exact HO_11.out⟩, ⟨by (with_reducible repeat (first | apply Kd.R_alloc | apply Kd.R_drewN | apply Kd.R_drew)); exact HO_13.out⟩, ⟨by (with_reducible repeat (first | apply Kd.R_alloc | apply Kd.R_drewN | apply Kd.R_drew)); exact HO_14.out⟩, ⟨by repeat (first | (with_reducible first | exact HB.out | apply below_alloc | apply pw_below_drewN | apply below_drew1) | exact HB.out)⟩⟩
                    · rw [if_neg c27] at H
                      exact absurd H (by simp)
                  · rw [if_neg c26] at H
                    exact absurd H (by simp)
                · rw [if_neg c24] at H
                  exact absurd H (by simp)
              · rw [if_neg c23] at H
                exact absurd H (by simp)
            · rw [if_neg c22] at H
              have c22b0 : decide (x40_1 < (t175.length : Int)) = false := decide_eq_false c22
              clear c22
              replace H := Option.bind_eq_some_iff.mp H
              obtain ⟨t190, A310, H⟩ := H
              replace H : ((graph_Order.f t190 x14_1).bind fun bt193 => (if t179 = 0 then (if ((t179 == 12) == (decide ((t182.length : Int) > 0))) = true then (if bt193.2 = t179 then ((flagstoneref1_Same.f k1 t178 bt193.1).bind fun t197 => (some t197)) else (none)) else (none)) else (if t179 = 12 then (if ((t179 == 12) == (decide ((t182.length : Int) > 0))) = true then (if bt193.2 = t179 then ((flagstoneref1_Same.f k1 t178 bt193.1).bind fun t198 => (some t198)) else (none)) else (none)) else (none)))) = some r := H
              have A31 := Aside0.mk A310
              clear A310
              replace H := Option.bind_eq_some_iff.mp H
              obtain ⟨⟨t193, t194⟩, A320, H⟩ := H
              replace H : (if t179 = 0 then (if ((t179 == 12) == (decide ((t182.length : Int) > 0))) = true then (if t194 = t179 then ((flagstoneref1_Same.f k1 t178 t193).bind fun t197 => (some t197)) else (none)) else (none)) else (if t179 = 12 then (if ((t179 == 12) == (decide ((t182.length : Int) > 0))) = true then (if t194 = t179 then ((flagstoneref1_Same.f k1 t178 t193).bind fun t198 => (some t198)) else (none)) else (none)) else (none))) = some r := H
              have A32 := Aside0.mk A320
              clear A320
              by_cases c33 : t179 = 0
              · rw [if_pos c33] at H
                have c33b0 : (t179 == 0) = true := beq_iff_eq.mpr c33
                have c33b1 : (t179 != 0) = false := bne_eq_false_iff_eq.mpr c33
                clear c33
                by_cases c34 : ((t179 == 12) == (decide ((t182.length : Int) > 0))) = true
                · rw [if_pos c34] at H
                  have c34b0 : ((t179 == 12) == (decide ((t182.length : Int) > 0))) = true := c34
                  (try (have c34b1 : decide ((t179 == 12) = (decide ((t182.length : Int) > 0))) = true := by simpa using c34))
                  (try (have c34b2 : ((t179 == 12) == (decide ((t182.length : Int) > 0))) = true := by simpa using c34))
                  have c34b3 : (t179 == 12) = false := by rw [beq_iff_eq.mp c33b0]; rfl
                  have c34b4 : decide (0 < t182.length) = false := by have h := c34; rw [c34b3] at h; simpa using h
                  clear c34
                  by_cases c35 : t194 = t179
                  · rw [if_pos c35] at H
                    have c35b0 : (t194 == t179) = true := beq_iff_eq.mpr c35
                    have c35b1 : (t194 != t179) = false := bne_eq_false_iff_eq.mpr c35
                    clear c35
                    replace H := Option.bind_eq_some_iff.mp H
                    obtain ⟨t197, A360, H⟩ := H
                    replace H : (some t197) = some r := H
                    have A36 := Aside0.mk A360
                    clear A360
                    obtain rfl := Option.some.inj H
                    go_wp2_with (first | ((with_reducible refine gate_callee (f := 8) rfl ?_); refine goesL_ (some 58) rfl rfl Try.func8 (by kernel_rfl) rfl #[.int .i64 a0, .int .i64 a2] rfl (by (try simp only [List.map_toArray, List.map_cons, List.map_nil]); first | done | rfl | (simp only [List.length_drop, List.length_take]; rfl)) ?_; (with_reducible refine (flagstonelaw10_nodes.calls a0 a2 t190 _ A31.out).mono ?_); rintro e w37 ⟨v191, rfl, ho0, hb⟩; refine ⟨_, rfl, ?_⟩; have n0_ := Aside0.mk (Kd.R_below (by (with_reducible repeat (first | apply Kd.R_alloc | apply Kd.R_drewN | apply Kd.R_drew)); exact HO_10.out) hb); have n1_ := Aside0.mk (Kd.R_elder' (by (with_reducible repeat (first | apply Kd.R_alloc | apply Kd.R_drewN | apply Kd.R_drew)); exact HO_11.out) (Kd.R_base ho0) hb); have n2_ := Aside0.mk (Kd.R_elder' (by (with_reducible repeat (first | apply Kd.R_alloc | apply Kd.R_drewN | apply Kd.R_drew)); exact HO_13.out) (Kd.R_base ho0) hb); have n3_ := Aside0.mk (Kd.R_below (by (with_reducible repeat (first | apply Kd.R_alloc | apply Kd.R_drewN | apply Kd.R_drew)); exact HO_14.out) hb); have n4_ := Aside0.mk (Kd.R_lower (Kd.R_new' (Kd.R_new' ho0 (Kd.R_lt (by (with_reducible repeat (first | apply Kd.R_alloc | apply Kd.R_drewN | apply Kd.R_drew)); exact HO_11.out))) (Kd.R_lt (by (with_reducible repeat (first | apply Kd.R_alloc | apply Kd.R_drewN | apply Kd.R_drew)); exact HO_13.out))) (below_size (by repeat (first | (with_reducible first | exact HB.out | apply below_alloc | apply pw_below_drewN | apply below_drew1) | exact HB.out)))); have n5_ := Aside0.mk (below_step (by repeat (first | (with_reducible first | exact HB.out | apply below_alloc | apply pw_below_drewN | apply below_drew1) | exact HB.out)) hb); clear HO_10; clear HO_11; clear HO_13; clear HO_14; clear HB; have HO_10 := n0_; have HO_11 := n1_; have HO_13 := n2_; have HO_14 := n3_; have HO192 := n4_; have HB := n5_; clear n0_ n1_ n2_ n3_ n4_ n5_; (try clear hb); (try clear hb2); (try clear hk); (try clear hi); (try clear ho0); obtain ⟨Ao38, co38, eo38⟩ := Kd.R_slice HO192.out; subst eo38; obtain ⟨Ao39, co39, eo39⟩ := Kd.R_slice HO_14.out; subst eo39) | ((with_reducible refine gate_callee (f := 10) rfl ?_); refine goesL_ (some 60) rfl rfl Try.func10 (by kernel_rfl) rfl #[.slice Ao38 t190.length co38, .slice Ao39 x14_1.length co39] rfl (by (try simp only [List.map_toArray, List.map_cons, List.map_nil]); first | done | rfl | (simp only [List.length_drop, List.length_take]; rfl)) ?_; (with_reducible refine (graph_Order.calls _ _ t190 _ _ x14_1 t193 t194 _ ?side1 ?side2 ?side3 ?side4 A32.out).mono ?_); (case side1 => repeat (first | exact (Kd.R_reads' HO192.out).2.2 | (with_reducible refine Kd.C_alloc ?_ _) | (with_reducible refine Kd.C_drewN ?_ _) | (with_reducible refine Kd.C_drew ?_))); (case side2 => exact (Kd.R_reads' HO192.out).2.1); (case side3 => repeat (first | exact (Kd.R_reads' HO_14.out).2.2 | (with_reducible refine Kd.C_alloc ?_ _) | (with_reducible refine Kd.C_drewN ?_ _) | (with_reducible refine Kd.C_drew ?_))); (case side4 => exact (Kd.R_reads' HO_14.out).2.1); rintro e w40 ⟨v195, rfl, ho0, hb⟩; refine ⟨_, rfl, ?_⟩; have n0_ := Aside0.mk (Kd.R_below (by (with_reducible repeat (first | apply Kd.R_alloc | apply Kd.R_drewN | apply Kd.R_drew)); exact HO_10.out) hb); have n1_ := Aside0.mk (Kd.R_elder' (by (with_reducible repeat (first | apply Kd.R_alloc | apply Kd.R_drewN | apply Kd.R_drew)); exact HO_11.out) (Kd.R_base ho0) hb); have n2_ := Aside0.mk (Kd.R_elder' (by (with_reducible repeat (first | apply Kd.R_alloc | apply Kd.R_drewN | apply Kd.R_drew)); exact HO_13.out) (Kd.R_base ho0) hb); have n3_ := Aside0.mk (Kd.R_below (by (with_reducible repeat (first | apply Kd.R_alloc | apply Kd.R_drewN | apply Kd.R_drew)); exact HO_14.out) hb); have n4_ := Aside0.mk (Kd.R_elder' (by (with_reducible repeat (first | apply Kd.R_alloc | apply Kd.R_drewN | apply Kd.R_drew)); exact HO192.out) (Kd.R_base ho0) hb); have n5_ := Aside0.mk (Kd.R_lower (Kd.R_new' (Kd.R_new' (Kd.R_new' ho0 (Kd.R_lt (by (with_reducible repeat (first | apply Kd.R_alloc | apply Kd.R_drewN | apply Kd.R_drew)); exact HO_11.out))) (Kd.R_lt (by (with_reducible repeat (first | apply Kd.R_alloc | apply Kd.R_drewN | apply Kd.R_drew)); exact HO_13.out))) (Kd.R_lt (by (with_reducible repeat (first | apply Kd.R_alloc | apply Kd.R_drewN | apply Kd.R_drew)); exact HO192.out))) (below_size (by repeat (first | (with_reducible first | exact HB.out | apply below_alloc | apply pw_below_drewN | apply below_drew1) | exact HB.out)))); have n6_ := Aside0.mk (below_step (by repeat (first | (with_reducible first | exact HB.out | apply below_alloc | apply pw_below_drewN | apply below_drew1) | exact HB.out)) hb); clear HO_10; clear HO_11; clear HO_13; clear HO_14; clear HO192; clear HB; have HO_10 := n0_; have HO_11 := n1_; have HO_13 := n2_; have HO_14 := n3_; have HO192 := n4_; have HO196 := n5_; have HB := n6_; clear n0_ n1_ n2_ n3_ n4_ n5_ n6_; (try clear hb); (try clear hb2); (try clear hk); (try clear hi); (try clear ho0); obtain ⟨Ao41, co41, eo41⟩ := Kd.R_slice HO_13.out; subst eo41; obtain ⟨Ao42, co42, eo42⟩ := Kd.R_slice HO_11.out; subst eo42; obtain ⟨Ao43, co43, eo43⟩ := Kd.R_slice HO196.out; subst eo43) | (go_at_call 12; (with_reducible refine (flagstoneref1_Same.calls k1 _ _ t178 _ _ t193 t197 _ ?side1 ?side2 ?side3 ?side4 A36.out).mono ?_); (case side1 => repeat (first | exact (Kd.R_reads' HO_11.out).2.2 | (with_reducible refine Kd.C_alloc ?_ _) | (with_reducible refine Kd.C_drewN ?_ _) | (with_reducible refine Kd.C_drew ?_))); (case side2 => exact (Kd.R_reads' HO_11.out).2.1); (case side3 => repeat (first | exact (Kd.R_reads' HO196.out).2.2 | (with_reducible refine Kd.C_alloc ?_ _) | (with_reducible refine Kd.C_drewN ?_ _) | (with_reducible refine Kd.C_drew ?_))); (case side4 => exact (Kd.R_reads' HO196.out).2.1); rintro e w' ⟨rfl, ⟨nd, rfl⟩⟩))
                    go_ret
                    exact ⟨by first | rfl | (simp [errW_none, errW_some] <;> rfl) | (simp [*, errW_none, errW_some] <;> rfl), by repeat (first | (with_reducible first | exact HB.out | apply below_alloc | apply pw_below_drewN | apply below_drew1) | exact HB.out)⟩
                  · rw [if_neg c35] at H
                    exact absurd H (by simp)
                · rw [if_neg c34] at H
                  exact absurd H (by simp)
              · rw [if_neg c33] at H
                have c33b0 : (t179 == 0) = false := beq_eq_false_iff_ne.mpr c33
                have c33b1 : (t179 != 0) = true := bne_iff_ne.mpr c33
                by_cases c44 : t179 = 12
                · rw [if_pos c44] at H
                  have c44b0 : (t179 == 12) = true := beq_iff_eq.mpr c44
                  have c44b1 : (t179 != 12) = false := bne_eq_false_iff_eq.mpr c44
                  clear c44
                  by_cases c45 : ((t179 == 12) == (decide ((t182.length : Int) > 0))) = true
                  · rw [if_pos c45] at H
                    have c45b0 : ((t179 == 12) == (decide ((t182.length : Int) > 0))) = true := c45
                    (try (have c45b1 : decide ((t179 == 12) = (decide ((t182.length : Int) > 0))) = true := by simpa using c45))
                    (try (have c45b2 : ((t179 == 12) == (decide ((t182.length : Int) > 0))) = true := by simpa using c45))
                    have c45b4 : decide (0 < t182.length) = true := by have h := c45; rw [c44b0] at h; simpa using h
                    clear c45
                    by_cases c46 : t194 = t179
                    · rw [if_pos c46] at H
                      have c46b0 : (t194 == t179) = true := beq_iff_eq.mpr c46
                      have c46b1 : (t194 != t179) = false := bne_eq_false_iff_eq.mpr c46
                      clear c46
                      replace H := Option.bind_eq_some_iff.mp H
                      obtain ⟨t198, A470, H⟩ := H
                      replace H : (some t198) = some r := H
                      have A47 := Aside0.mk A470
                      clear A470
                      obtain rfl := Option.some.inj H
                      go_wp2_with (first | ((with_reducible refine gate_callee (f := 8) rfl ?_); refine goesL_ (some 58) rfl rfl Try.func8 (by kernel_rfl) rfl #[.int .i64 a0, .int .i64 a2] rfl (by (try simp only [List.map_toArray, List.map_cons, List.map_nil]); first | done | rfl | (simp only [List.length_drop, List.length_take]; rfl)) ?_; (with_reducible refine (flagstonelaw10_nodes.calls a0 a2 t190 _ A31.out).mono ?_); rintro e w48 ⟨v191, rfl, ho0, hb⟩; refine ⟨_, rfl, ?_⟩; have n0_ := Aside0.mk (Kd.R_below (by (with_reducible repeat (first | apply Kd.R_alloc | apply Kd.R_drewN | apply Kd.R_drew)); exact HO_10.out) hb); have n1_ := Aside0.mk (Kd.R_elder' (by (with_reducible repeat (first | apply Kd.R_alloc | apply Kd.R_drewN | apply Kd.R_drew)); exact HO_11.out) (Kd.R_base ho0) hb); have n2_ := Aside0.mk (Kd.R_elder' (by (with_reducible repeat (first | apply Kd.R_alloc | apply Kd.R_drewN | apply Kd.R_drew)); exact HO_13.out) (Kd.R_base ho0) hb); have n3_ := Aside0.mk (Kd.R_below (by (with_reducible repeat (first | apply Kd.R_alloc | apply Kd.R_drewN | apply Kd.R_drew)); exact HO_14.out) hb); have n4_ := Aside0.mk (Kd.R_lower (Kd.R_new' (Kd.R_new' ho0 (Kd.R_lt (by (with_reducible repeat (first | apply Kd.R_alloc | apply Kd.R_drewN | apply Kd.R_drew)); exact HO_11.out))) (Kd.R_lt (by (with_reducible repeat (first | apply Kd.R_alloc | apply Kd.R_drewN | apply Kd.R_drew)); exact HO_13.out))) (below_size (by repeat (first | (with_reducible first | exact HB.out | apply below_alloc | apply pw_below_drewN | apply below_drew1) | exact HB.out)))); have n5_ := Aside0.mk (below_step (by repeat (first | (with_reducible first | exact HB.out | apply below_alloc | apply pw_below_drewN | apply below_drew1) | exact HB.out)) hb); clear HO_10; clear HO_11; clear HO_13; clear HO_14; clear HB; have HO_10 := n0_; have HO_11 := n1_; have HO_13 := n2_; have HO_14 := n3_; have HO192 := n4_; have HB := n5_; clear n0_ n1_ n2_ n3_ n4_ n5_; (try clear hb); (try clear hb2); (try clear hk); (try clear hi); (try clear ho0); obtain ⟨Ao49, co49, eo49⟩ := Kd.R_slice HO192.out; subst eo49; obtain ⟨Ao50, co50, eo50⟩ := Kd.R_slice HO_14.out; subst eo50) | ((with_reducible refine gate_callee (f := 10) rfl ?_); refine goesL_ (some 60) rfl rfl Try.func10 (by kernel_rfl) rfl #[.slice Ao49 t190.length co49, .slice Ao50 x14_1.length co50] rfl (by (try simp only [List.map_toArray, List.map_cons, List.map_nil]); first | done | rfl | (simp only [List.length_drop, List.length_take]; rfl)) ?_; (with_reducible refine (graph_Order.calls _ _ t190 _ _ x14_1 t193 t194 _ ?side1 ?side2 ?side3 ?side4 A32.out).mono ?_); (case side1 => repeat (first | exact (Kd.R_reads' HO192.out).2.2 | (with_reducible refine Kd.C_alloc ?_ _) | (with_reducible refine Kd.C_drewN ?_ _) | (with_reducible refine Kd.C_drew ?_))); (case side2 => exact (Kd.R_reads' HO192.out).2.1); (case side3 => repeat (first | exact (Kd.R_reads' HO_14.out).2.2 | (with_reducible refine Kd.C_alloc ?_ _) | (with_reducible refine Kd.C_drewN ?_ _) | (with_reducible refine Kd.C_drew ?_))); (case side4 => exact (Kd.R_reads' HO_14.out).2.1); rintro e w51 ⟨v195, rfl, ho0, hb⟩; refine ⟨_, rfl, ?_⟩; have n0_ := Aside0.mk (Kd.R_below (by (with_reducible repeat (first | apply Kd.R_alloc | apply Kd.R_drewN | apply Kd.R_drew)); exact HO_10.out) hb); have n1_ := Aside0.mk (Kd.R_elder' (by (with_reducible repeat (first | apply Kd.R_alloc | apply Kd.R_drewN | apply Kd.R_drew)); exact HO_11.out) (Kd.R_base ho0) hb); have n2_ := Aside0.mk (Kd.R_elder' (by (with_reducible repeat (first | apply Kd.R_alloc | apply Kd.R_drewN | apply Kd.R_drew)); exact HO_13.out) (Kd.R_base ho0) hb); have n3_ := Aside0.mk (Kd.R_below (by (with_reducible repeat (first | apply Kd.R_alloc | apply Kd.R_drewN | apply Kd.R_drew)); exact HO_14.out) hb); have n4_ := Aside0.mk (Kd.R_elder' (by (with_reducible repeat (first | apply Kd.R_alloc | apply Kd.R_drewN | apply Kd.R_drew)); exact HO192.out) (Kd.R_base ho0) hb); have n5_ := Aside0.mk (Kd.R_lower (Kd.R_new' (Kd.R_new' (Kd.R_new' ho0 (Kd.R_lt (by (with_reducible repeat (first | apply Kd.R_alloc | apply Kd.R_drewN | apply Kd.R_drew)); exact HO_11.out))) (Kd.R_lt (by (with_reducible repeat (first | apply Kd.R_alloc | apply Kd.R_drewN | apply Kd.R_drew)); exact HO_13.out))) (Kd.R_lt (by (with_reducible repeat (first | apply Kd.R_alloc | apply Kd.R_drewN | apply Kd.R_drew)); exact HO192.out))) (below_size (by repeat (first | (with_reducible first | exact HB.out | apply below_alloc | apply pw_below_drewN | apply below_drew1) | exact HB.out)))); have n6_ := Aside0.mk (below_step (by repeat (first | (with_reducible first | exact HB.out | apply below_alloc | apply pw_below_drewN | apply below_drew1) | exact HB.out)) hb); clear HO_10; clear HO_11; clear HO_13; clear HO_14; clear HO192; clear HB; have HO_10 := n0_; have HO_11 := n1_; have HO_13 := n2_; have HO_14 := n3_; have HO192 := n4_; have HO196 := n5_; have HB := n6_; clear n0_ n1_ n2_ n3_ n4_ n5_ n6_; (try clear hb); (try clear hb2); (try clear hk); (try clear hi); (try clear ho0); obtain ⟨Ao52, co52, eo52⟩ := Kd.R_slice HO_13.out; subst eo52; obtain ⟨Ao53, co53, eo53⟩ := Kd.R_slice HO_11.out; subst eo53; obtain ⟨Ao54, co54, eo54⟩ := Kd.R_slice HO196.out; subst eo54) | (go_at_call 12; (with_reducible refine (flagstoneref1_Same.calls k1 _ _ t178 _ _ t193 t198 _ ?side1 ?side2 ?side3 ?side4 A47.out).mono ?_); (case side1 => repeat (first | exact (Kd.R_reads' HO_11.out).2.2 | (with_reducible refine Kd.C_alloc ?_ _) | (with_reducible refine Kd.C_drewN ?_ _) | (with_reducible refine Kd.C_drew ?_))); (case side2 => exact (Kd.R_reads' HO_11.out).2.1); (case side3 => repeat (first | exact (Kd.R_reads' HO196.out).2.2 | (with_reducible refine Kd.C_alloc ?_ _) | (with_reducible refine Kd.C_drewN ?_ _) | (with_reducible refine Kd.C_drew ?_))); (case side4 => exact (Kd.R_reads' HO196.out).2.1); rintro e w' ⟨rfl, ⟨nd, rfl⟩⟩))
                      go_ret
                      exact ⟨by first | rfl | (simp [errW_none, errW_some] <;> rfl) | (simp [*, errW_none, errW_some] <;> rfl), by repeat (first | (with_reducible first | exact HB.out | apply below_alloc | apply pw_below_drewN | apply below_drew1) | exact HB.out)⟩
                    · rw [if_neg c46] at H
                      exact absurd H (by simp)
                  · rw [if_neg c45] at H
                    exact absurd H (by simp)
                · rw [if_neg c44] at H
                  exact absurd H (by simp)
      · rw [if_neg c12] at H
        exact absurd H (by simp)
    · rw [if_neg c11] at H
      exact absurd H (by simp)
  · replace c6 := Bool.eq_false_iff.mpr c6
    subst c6
    have H1 : (none) = some r := by rw [if_neg (show ¬ (false = true) by decide)] at H; exact H
    clear H
    have H := H1
    clear H1
    exact absurd H (by simp)

/-- THE ONE PURE STATEMENT of flagstonelaw10_GraphCycles: yours. -/
noncomputable def flagstonelaw10_GraphCycles.Pure : Prop := ∀ (a0 : Int) (a1 : Int) (a2 : Int) (l3 : List Int), (Lit.int .i64 a0).wf = true → (Lit.int .i64 a1).wf = true → (Lit.int .i64 a2).wf = true → l3.length ≤ maxLen → l3.length * 1 ≤ 140737488351232 → (∀ x ∈ l3, (Lit.int .u8 x).wf = true) → ∃ k, flagstonelaw10_GraphCycles.f k a0 a1 a2 l3 = some true
theorem flagstonelaw10_GraphCycles.walk (P : flagstonelaw10_GraphCycles.Pure) (a0 : Int) (a1 : Int) (a2 : Int) (a3 : Option Addr) (len3 cap3 : Nat) (z3 : List Int) (w : World) (w0 : (Lit.int .i64 a0).wf = true) (w1 : (Lit.int .i64 a1).wf = true) (w2 : (Lit.int .i64 a2).wf = true) (w3 : (a3 = none ∧ len3 = 0 ∧ cap3 = 0 ∧ z3 = []) ∨ ∃ x, a3 = some x ∧ len3 ≤ cap3 ∧ cap3 ≤ maxLen ∧ z3.length = cap3 ∧ (∀ i, i < z3.length → w.cell? (x.add i) = some (.int .u8 (z3.getD i 0))) ∧ ∀ n ∈ z3, (Lit.int .u8 n).wf = true) (y3 : len3 * 1 ≤ 140737488351232) :
    Calls Try.prog 5 #[.int .i64 a0, .int .i64 a1, .int .i64 a2, .slice a3 len3 cap3] w fun e w' => e = .returned (.bool true) ∧ Below w.heap.size w w' := by
  obtain ⟨l3, rfl, hr3, hm3, hw3, hc3⟩ := ReadsInt.ofRowC w3
  obtain ⟨k, h⟩ := P a0 a1 a2 l3 w0 w1 w2 hm3 y3 hw3
  refine (flagstonelaw10_GraphCycles.calls k a0 a1 a2 _ _ l3 true w (Kd.C_of_reads (d := (0 : Int)) (h1 := fun _ => rfl) hr3) hc3 h).mono ?_
  rintro e w' ⟨rfl, hd⟩
  exact ⟨rfl, hd⟩

end Go.Proofs.Ytkmcepeejleahaa.Q
