-- laid by wip/tools/qprint.py, a program of this session, out of the translation: nothing here is trusted: Lean checks it
import Derived.Test.YtkmcepeejleahaaQ0
import Derived.Test.YtkmcepeejleahaaQ1
namespace Go.Proofs.Ytkmcepeejleahaa.Q
open Go.RowKit Go.Proofs.YtkmcepeejleahaaW.PrintWords Go.Proofs.YtkmcepeejleahaaW.PrintLast Go.Proofs.YtkmcepeejleahaaW.PrintMore
attribute [local go_sem] max2_int min2_int max_two min_two max_three min_three max_four min_four   -- for this text's walks alone
set_option linter.unusedVariables false
set_option linter.unusedSimpArgs false

/-! ### flagstonedraw_Codes_Next: function 21 -/
noncomputable def flagstonedraw_Codes_Next.f (s0_0 : List Int) (s0_1 : Int) (a1 : Int) : Option (Int × Int) := (flagstonedraw_Codes_Left.f s0_0 s0_1).bind fun bt120 => (if bt120.1 = true then (if 0 ≤ (wrap64 ((wrap64 (bt120.2 + 1)) - 1)) then (if (wrap64 ((wrap64 (bt120.2 + 1)) - 1)) < (s0_0.length : Int) then (if a1 = 0 then (none) else (some (Int.tmod (wrap64 (rd s0_0 (wrap64 ((wrap64 (bt120.2 + 1)) - 1)))) a1, wrap64 (bt120.2 + 1)))) else (none)) else (none)) else (some (0, bt120.2)))
set_option maxHeartbeats 8000000 in
set_option maxRecDepth 100000 in
theorem flagstonedraw_Codes_Next.calls (g : Nat) (s0_0 : List Int) (s0_1 : Int) (a1 : Int) (r1 : Int) (r2 : Int) (w0 w : World) (hI : IsS64 w0 w g s0_0 s0_1) (hB : Below w0.heap.size w0 w) (h : flagstonedraw_Codes_Next.f s0_0 s0_1 a1 = some (r1, r2)) :
    Calls Try.prog 21 #[.pointer (some ⟨g, 0, none⟩), .int .i64 a1] w fun e w' => e = .returned (.int .i64 r1) ∧ IsS64 w0 w' g s0_0 r2 ∧ Below w0.heap.size w0 w' ∧ KeepBut w w' g none := by
  have HI0 := Aside0.mk hI
  have HK := Aside0.mk (KeepBut.refl w g none)
  have HL := Aside0.mk hB.size
  clear hI
  have HW0 := Aside0.mk hB.size
  have HB := Aside0.mk hB
  clear hB
  have H : ((flagstonedraw_Codes_Left.f s0_0 s0_1).bind fun bt120 => (if bt120.1 = true then (if 0 ≤ (wrap64 ((wrap64 (bt120.2 + 1)) - 1)) then (if (wrap64 ((wrap64 (bt120.2 + 1)) - 1)) < (s0_0.length : Int) then (if a1 = 0 then (none) else (some (Int.tmod (wrap64 (rd s0_0 (wrap64 ((wrap64 (bt120.2 + 1)) - 1)))) a1, wrap64 (bt120.2 + 1)))) else (none)) else (none)) else (some (0, bt120.2)))) = some (r1, r2) := h
  clear h
  replace H := Option.bind_eq_some_iff.mp H
  obtain ⟨⟨t120, t121⟩, A30, H⟩ := H
  replace H : (if t120 = true then (if 0 ≤ (wrap64 ((wrap64 (t121 + 1)) - 1)) then (if (wrap64 ((wrap64 (t121 + 1)) - 1)) < (s0_0.length : Int) then (if a1 = 0 then (none) else (some (Int.tmod (wrap64 (rd s0_0 (wrap64 ((wrap64 (t121 + 1)) - 1)))) a1, wrap64 (t121 + 1)))) else (none)) else (none)) else (some (0, t121))) = some (r1, r2) := H
  have A3 := Aside0.mk A30
  clear A30
  by_cases c4 : t120 = true
  · subst c4
    have H1 : (if 0 ≤ (wrap64 ((wrap64 (t121 + 1)) - 1)) then (if (wrap64 ((wrap64 (t121 + 1)) - 1)) < (s0_0.length : Int) then (if a1 = 0 then (none) else (some (Int.tmod (wrap64 (rd s0_0 (wrap64 ((wrap64 (t121 + 1)) - 1)))) a1, wrap64 (t121 + 1)))) else (none)) else (none)) = some (r1, r2) := by rw [if_pos rfl] at H; exact H
    clear H
    have H := H1
    clear H1
    obtain ⟨ji5, hji5⟩ : ∃ j_ : Int, (wrap64 ((wrap64 (t121 + 1)) - 1)) = j_ := ⟨_, rfl⟩
    replace H : (if 0 ≤ (ji5) then (if (ji5) < (s0_0.length : Int) then (if a1 = 0 then (none) else (some (Int.tmod (wrap64 (rd s0_0 (ji5))) a1, wrap64 (t121 + 1)))) else (none)) else (none)) = some (r1, r2) := by first | (rw [hji5] at H; exact H) | (simp only [hji5] at H ⊢; exact H)
    (try rw [hji5] at A3)
    have hji5w : (IntKind.i64.wrap ((wrap64 (t121 + 1)) - 1)) = ji5 := (i64_w _).trans hji5
    by_cases c6 : 0 ≤ (ji5)
    · rw [if_pos c6] at H
      have c6b0 : decide (0 ≤ (ji5)) = true := decide_eq_true c6
      clear c6
      by_cases c7 : (ji5) < (s0_0.length : Int)
      · rw [if_pos c7] at H
        have c7b0 : decide ((ji5) < (s0_0.length : Int)) = true := decide_eq_true c7
        clear c7
        by_cases c8 : a1 = 0
        · rw [if_pos c8] at H
          exact absurd H (by simp)
        · rw [if_neg c8] at H
          have c8b0 : (a1 == 0) = false := beq_eq_false_iff_ne.mpr c8
          have c8b1 : (a1 != 0) = true := bne_iff_ne.mpr c8
          simp only [Option.some.injEq, Prod.mk.injEq] at H
          obtain ⟨rfl, rfl⟩ := H
          go_enter Try.func21, Try.ntmps21
          go_wp2_with (first | (go_at_call 20; (with_reducible refine (flagstonedraw_Codes_Left.calls g s0_0 s0_1 true t121 w0 _ ?side1 ?side2 A3.out).mono ?_); (case side1 => repeat (first | (with_reducible first | exact HI0.out | apply IsS64.alloc | apply IsS64.drewN | apply IsS64.drew | apply IsS64.set_1) | exact HI0.out)); (case side2 => repeat (first | (with_reducible first | exact HB.out | apply below_alloc | apply pw_below_drewN | apply below_drew1 | refine below_set ?_ (IsS64.ge HI0.out)) | exact HB.out)); rintro e w9 ⟨rfl, hi, hb, hk⟩; have n0_ := Aside0.mk (KeepBut.trans (by repeat (first | (with_reducible first | exact HK.out | apply KeepBut.set_ | apply keep_drewN | apply keep_drew | apply keep_alloc) | exact HK.out)) hk (.inl rfl)); have n1_ := Aside0.mk (hb); have n2_ := Aside0.mk (hi); clear HK; clear HB; clear HI0; have HK := n0_; have HB := n1_; have HI0 := n2_; clear n0_ n1_ n2_; (try clear hb); (try clear hb2); (try clear hk); (try clear hi); obtain ⟨ASz10_0, cSz10_0, HGz10, hgz10, HSz10_0⟩ := HI0.out; have hcz10_0 := cellS64_0 HGz10; have hcz10_1 := cellS64_1 HGz10; have hfz10_1 := blk_frozen HGz10 1; clear HGz10 hgz10; have p122 : 0 ≤ ((ji5) : Int) := of_decide_eq_true (by first | (with_reducible assumption) | assumption); have q122 : (ji5) < (s0_0.length : Int) := of_decide_eq_true (by first | (with_reducible assumption) | assumption); obtain ⟨ad122, e122, hx122_0⟩ := Kd.at_int HSz10_0 (ji5) p122 q122; cases e122; have hn122_0 : ad122.block ≠ g := Nat.ne_of_lt (Nat.lt_of_lt_of_le (by have := World.block_lt_of_cell? _ _ hx122_0; first | rwa [add_block] at this | exact this) (IsS64.ge HI0.out)); replace hx122_0 := pw_cell_below HB.out hx122_0; replace hx122_0 := (cell_far (p := ⟨g, 1, none⟩) (by first | (rw [add_block]; exact hn122_0) | (show (Addr.add _ _).block ≠ _; rw [add_block]; exact hn122_0) | exact hn122_0) (.int .i64 (wrap64 (t121 + 1)))).trans hx122_0; (try have hy122_0 := fun (n_ : Nat) => (show (((w9.drewN n_).setCell ⟨g, 1, none⟩ (.int .i64 (wrap64 (t121 + 1))))).cell? _ = some _ from hx122_0)); clear hn122_0; replace p122 := eq_true p122; replace q122 := eq_true q122))
          repeat (go_quiet (first | (go_at_call 20; (with_reducible refine (flagstonedraw_Codes_Left.calls g s0_0 s0_1 true t121 w0 _ ?side1 ?side2 A3.out).mono ?_); (case side1 => repeat (first | (with_reducible first | exact HI0.out | apply IsS64.alloc | apply IsS64.drewN | apply IsS64.drew | apply IsS64.set_1) | exact HI0.out)); (case side2 => repeat (first | (with_reducible first | exact HB.out | apply below_alloc | apply pw_below_drewN | apply below_drew1 | refine below_set ?_ (IsS64.ge HI0.out)) | exact HB.out)); rintro e w9 ⟨rfl, hi, hb, hk⟩; have n0_ := Aside0.mk (KeepBut.trans (by repeat (first | (with_reducible first | exact HK.out | apply KeepBut.set_ | apply keep_drewN | apply keep_drew | apply keep_alloc) | exact HK.out)) hk (.inl rfl)); have n1_ := Aside0.mk (hb); have n2_ := Aside0.mk (hi); clear HK; clear HB; clear HI0; have HK := n0_; have HB := n1_; have HI0 := n2_; clear n0_ n1_ n2_; (try clear hb); (try clear hb2); (try clear hk); (try clear hi); obtain ⟨ASz10_0, cSz10_0, HGz10, hgz10, HSz10_0⟩ := HI0.out; have hcz10_0 := cellS64_0 HGz10; have hcz10_1 := cellS64_1 HGz10; have hfz10_1 := blk_frozen HGz10 1; clear HGz10 hgz10; have p122 : 0 ≤ ((ji5) : Int) := of_decide_eq_true (by first | (with_reducible assumption) | assumption); have q122 : (ji5) < (s0_0.length : Int) := of_decide_eq_true (by first | (with_reducible assumption) | assumption); obtain ⟨ad122, e122, hx122_0⟩ := Kd.at_int HSz10_0 (ji5) p122 q122; cases e122; have hn122_0 : ad122.block ≠ g := Nat.ne_of_lt (Nat.lt_of_lt_of_le (by have := World.block_lt_of_cell? _ _ hx122_0; first | rwa [add_block] at this | exact this) (IsS64.ge HI0.out)); replace hx122_0 := pw_cell_below HB.out hx122_0; replace hx122_0 := (cell_far (p := ⟨g, 1, none⟩) (by first | (rw [add_block]; exact hn122_0) | (show (Addr.add _ _).block ≠ _; rw [add_block]; exact hn122_0) | exact hn122_0) (.int .i64 (wrap64 (t121 + 1)))).trans hx122_0; (try have hy122_0 := fun (n_ : Nat) => (show (((w9.drewN n_).setCell ⟨g, 1, none⟩ (.int .i64 (wrap64 (t121 + 1))))).cell? _ = some _ from hx122_0)); clear hn122_0; replace p122 := eq_true p122; replace q122 := eq_true q122)); try go_wp2_with (first | (go_at_call 20; (with_reducible refine (flagstonedraw_Codes_Left.calls g s0_0 s0_1 true t121 w0 _ ?side1 ?side2 A3.out).mono ?_); (case side1 => repeat (first | (with_reducible first | exact HI0.out | apply IsS64.alloc | apply IsS64.drewN | apply IsS64.drew | apply IsS64.set_1) | exact HI0.out)); (case side2 => repeat (first | (with_reducible first | exact HB.out | apply below_alloc | apply pw_below_drewN | apply below_drew1 | refine below_set ?_ (IsS64.ge HI0.out)) | exact HB.out)); rintro e w9 ⟨rfl, hi, hb, hk⟩; have n0_ := Aside0.mk (KeepBut.trans (by repeat (first | (with_reducible first | exact HK.out | apply KeepBut.set_ | apply keep_drewN | apply keep_drew | apply keep_alloc) | exact HK.out)) hk (.inl rfl)); have n1_ := Aside0.mk (hb); have n2_ := Aside0.mk (hi); clear HK; clear HB; clear HI0; have HK := n0_; have HB := n1_; have HI0 := n2_; clear n0_ n1_ n2_; (try clear hb); (try clear hb2); (try clear hk); (try clear hi); obtain ⟨ASz10_0, cSz10_0, HGz10, hgz10, HSz10_0⟩ := HI0.out; have hcz10_0 := cellS64_0 HGz10; have hcz10_1 := cellS64_1 HGz10; have hfz10_1 := blk_frozen HGz10 1; clear HGz10 hgz10; have p122 : 0 ≤ ((ji5) : Int) := of_decide_eq_true (by first | (with_reducible assumption) | assumption); have q122 : (ji5) < (s0_0.length : Int) := of_decide_eq_true (by first | (with_reducible assumption) | assumption); obtain ⟨ad122, e122, hx122_0⟩ := Kd.at_int HSz10_0 (ji5) p122 q122; cases e122; have hn122_0 : ad122.block ≠ g := Nat.ne_of_lt (Nat.lt_of_lt_of_le (by have := World.block_lt_of_cell? _ _ hx122_0; first | rwa [add_block] at this | exact this) (IsS64.ge HI0.out)); replace hx122_0 := pw_cell_below HB.out hx122_0; replace hx122_0 := (cell_far (p := ⟨g, 1, none⟩) (by first | (rw [add_block]; exact hn122_0) | (show (Addr.add _ _).block ≠ _; rw [add_block]; exact hn122_0) | exact hn122_0) (.int .i64 (wrap64 (t121 + 1)))).trans hx122_0; (try have hy122_0 := fun (n_ : Nat) => (show (((w9.drewN n_).setCell ⟨g, 1, none⟩ (.int .i64 (wrap64 (t121 + 1))))).cell? _ = some _ from hx122_0)); clear hn122_0; replace p122 := eq_true p122; replace q122 := eq_true q122)))
          go_ret
          exact ⟨by first | rfl | (simp [errW_none, errW_some] <;> rfl) | (simp only [← hji5]; first | rfl | (simp [errW_none, errW_some] <;> rfl)) | (simp [*, errW_none, errW_some] <;> rfl), by repeat (first | (with_reducible first | exact HI0.out | apply IsS64.alloc | apply IsS64.drewN | apply IsS64.drew | apply IsS64.set_1) | exact HI0.out), by repeat (first | (with_reducible first | exact HB.out | apply below_alloc | apply pw_below_drewN | apply below_drew1 | refine below_set ?_ (IsS64.ge HI0.out)) | exact HB.out), by repeat (first | (with_reducible first | exact HK.out | apply KeepBut.set_ | apply keep_drewN | apply keep_drew | apply keep_alloc) | exact HK.out)⟩
      · rw [if_neg c7] at H
        exact absurd H (by simp)
    · rw [if_neg c6] at H
      exact absurd H (by simp)
  · replace c4 := Bool.eq_false_iff.mpr c4
    subst c4
    have H1 : (some (0, t121)) = some (r1, r2) := by rw [if_neg (show ¬ (false = true) by decide)] at H; exact H
    clear H
    have H := H1
    clear H1
    simp only [Option.some.injEq, Prod.mk.injEq] at H
    obtain ⟨rfl, rfl⟩ := H
    go_enter Try.func21, Try.ntmps21
    go_wp2_with (first | (go_at_call 20; (with_reducible refine (flagstonedraw_Codes_Left.calls g s0_0 s0_1 false t121 w0 _ ?side1 ?side2 A3.out).mono ?_); (case side1 => repeat (first | (with_reducible first | exact HI0.out | apply IsS64.alloc | apply IsS64.drewN | apply IsS64.drew | apply IsS64.set_1) | exact HI0.out)); (case side2 => repeat (first | (with_reducible first | exact HB.out | apply below_alloc | apply pw_below_drewN | apply below_drew1 | refine below_set ?_ (IsS64.ge HI0.out)) | exact HB.out)); rintro e w11 ⟨rfl, hi, hb, hk⟩; have n0_ := Aside0.mk (KeepBut.trans (by repeat (first | (with_reducible first | exact HK.out | apply KeepBut.set_ | apply keep_drewN | apply keep_drew | apply keep_alloc) | exact HK.out)) hk (.inl rfl)); have n1_ := Aside0.mk (hb); have n2_ := Aside0.mk (hi); clear HK; clear HB; clear HI0; have HK := n0_; have HB := n1_; have HI0 := n2_; clear n0_ n1_ n2_; (try clear hb); (try clear hb2); (try clear hk); (try clear hi)))
    repeat (go_quiet (first | (go_at_call 20; (with_reducible refine (flagstonedraw_Codes_Left.calls g s0_0 s0_1 false t121 w0 _ ?side1 ?side2 A3.out).mono ?_); (case side1 => repeat (first | (with_reducible first | exact HI0.out | apply IsS64.alloc | apply IsS64.drewN | apply IsS64.drew | apply IsS64.set_1) | exact HI0.out)); (case side2 => repeat (first | (with_reducible first | exact HB.out | apply below_alloc | apply pw_below_drewN | apply below_drew1 | refine below_set ?_ (IsS64.ge HI0.out)) | exact HB.out)); rintro e w11 ⟨rfl, hi, hb, hk⟩; have n0_ := Aside0.mk (KeepBut.trans (by repeat (first | (with_reducible first | exact HK.out | apply KeepBut.set_ | apply keep_drewN | apply keep_drew | apply keep_alloc) | exact HK.out)) hk (.inl rfl)); have n1_ := Aside0.mk (hb); have n2_ := Aside0.mk (hi); clear HK; clear HB; clear HI0; have HK := n0_; have HB := n1_; have HI0 := n2_; clear n0_ n1_ n2_; (try clear hb); (try clear hb2); (try clear hk); (try clear hi))); try go_wp2_with (first | (go_at_call 20; (with_reducible refine (flagstonedraw_Codes_Left.calls g s0_0 s0_1 false t121 w0 _ ?side1 ?side2 A3.out).mono ?_); (case side1 => repeat (first | (with_reducible first | exact HI0.out | apply IsS64.alloc | apply IsS64.drewN | apply IsS64.drew | apply IsS64.set_1) | exact HI0.out)); (case side2 => repeat (first | (with_reducible first | exact HB.out | apply below_alloc | apply pw_below_drewN | apply below_drew1 | refine below_set ?_ (IsS64.ge HI0.out)) | exact HB.out)); rintro e w11 ⟨rfl, hi, hb, hk⟩; have n0_ := Aside0.mk (KeepBut.trans (by repeat (first | (with_reducible first | exact HK.out | apply KeepBut.set_ | apply keep_drewN | apply keep_drew | apply keep_alloc) | exact HK.out)) hk (.inl rfl)); have n1_ := Aside0.mk (hb); have n2_ := Aside0.mk (hi); clear HK; clear HB; clear HI0; have HK := n0_; have HB := n1_; have HI0 := n2_; clear n0_ n1_ n2_; (try clear hb); (try clear hb2); (try clear hk); (try clear hi))))
    go_ret
    exact ⟨by first | rfl | (simp [errW_none, errW_some] <;> rfl) | (simp [*, errW_none, errW_some] <;> rfl), by repeat (first | (with_reducible first | exact HI0.out | apply IsS64.alloc | apply IsS64.drewN | apply IsS64.drew | apply IsS64.set_1) | exact HI0.out), by repeat (first | (with_reducible first | exact HB.out | apply below_alloc | apply pw_below_drewN | apply below_drew1 | refine below_set ?_ (IsS64.ge HI0.out)) | exact HB.out), by repeat (first | (with_reducible first | exact HK.out | apply KeepBut.set_ | apply keep_drewN | apply keep_drew | apply keep_alloc) | exact HK.out)⟩

end Go.Proofs.Ytkmcepeejleahaa.Q
