/-
  Diagrams: the walk of DiagramLimits. No condition beyond those that stand in it.
-/
import Derived.Test.YtihikenmknphkaaSA
namespace Go.Proofs.Ytihikenmknphkaa.Q
open Go Go.RowKit Go.Maps Go.Proofs.YtihikenmknphkaaW.PrintWords Go.Proofs.YtihikenmknphkaaW.PrintLast Go.Proofs.YtihikenmknphkaaW.PrintMore Go.Proofs.Ytihikenmknphkaa.M
set_option linter.unusedVariables false
set_option linter.unusedSimpArgs false

theorem two_fresh {B : Nat} {w w1 w2 : World} (hB : B ≤ w.heap.size) (h1 : StAt 58 w1 (w.heap.size + 1) w.heap.size (.slice none 0 0) [] false) (b1 : Below w.heap.size w w1) (s1 : w1.heap.size = w.heap.size + 2)
    (h2 : StAt 67 w2 (w1.heap.size + 1) w1.heap.size (.slice none 0 0) [] false) (b2 : Below w1.heap.size w1 w2) : Two B w2 (w.heap.size + 1) (w1.heap.size + 1) [] [] := by
  have hn : ∀ k, (Value.slice none 0 0).ownBlock = some k → False := fun k e => by simp [Value.ownBlock] at e
  refine ⟨w.heap.size, .slice none 0 0, w1.heap.size, .slice none 0 0, h1.kept (Fr.of_below b2 (fun _ => False)) (fun _ _ e => e.elim), h2, fun k hk hk' => ?_, fun k hk => ?_, fun k hk => ?_⟩
  · rcases hk with e | e | e
    · rcases hk' with e' | e' | e'
      · omega
      · omega
      · exact hn _ e'
    · rcases hk' with e' | e' | e'
      · omega
      · omega
      · exact hn _ e'
    · exact hn _ e
  · rcases hk with e | e | e
    · omega
    · omega
    · exact (hn _ e).elim
  · rcases hk with e | e | e
    · omega
    · omega
    · exact (hn _ e).elim
theorem mod_ev {a n : Int} (hn : 0 < n) (hn1 : n ≤ 100000) : ∃ r, flagstonedraw_Mod.f a n = some r ∧ 0 ≤ r ∧ r < n := by
  unfold flagstonedraw_Mod.f
  rw [if_neg (by omega)]
  have h1 := Int.tmod_lt_of_pos a hn
  have h2 := Int.lt_tmod_of_pos a hn
  by_cases h : Int.tmod a n < 0
  · rw [if_pos h, wrap_small (x := Int.tmod a n + n) (by omega) (by omega)]
    exact ⟨_, rfl, by omega, by omega⟩
  · rw [if_neg h]
    exact ⟨_, rfl, by omega, by omega⟩
theorem ch_leaf {ns : List N39} (hw : WF ns) {f : Int} (g h : Int) (h0 : f < 0) : ∃ r, ChRes ns f g h ns r := by
  cases hc : chOk ns f g h with
  | false => exact ⟨-1002, .inl ⟨hc, rfl, rfl⟩⟩
  | true =>
    obtain ⟨⟨vf, cf⟩, vg, vh⟩ := (chOk_iff hw).1 hc
    rcases cf.leaf h0 with e | e
    · exact ⟨h, .inr ⟨hc, 1, _, _, by unfold chooseF; rw [if_neg (by omega), if_pos e]⟩⟩
    · exact ⟨g, .inr ⟨hc, 1, _, _, by unfold chooseF; rw [if_pos e]⟩⟩
theorem and_leaf {ns : List N39} (hw : WF ns) {f : Int} (g : Int) (h0 : f < 0) : ∃ r, AndRes ns f g ns r := by
  cases hc : condF ns g with
  | false => exact ⟨-1002, .inl ⟨hc, rfl, rfl⟩⟩
  | true =>
    obtain ⟨r, h⟩ := ch_leaf hw g (-1) h0
    exact ⟨r, .inr ⟨hc, h⟩⟩
theorem or_leaf {ns : List N39} (hw : WF ns) {f : Int} (g : Int) (h0 : f < 0) : ∃ r, OrRes ns f g ns r := by
  cases hc : condF ns g with
  | false => exact ⟨-1002, .inl ⟨hc, rfl, rfl⟩⟩
  | true =>
    obtain ⟨r, h⟩ := ch_leaf hw (-2) g h0
    exact ⟨r, .inr ⟨hc, h⟩⟩
theorem nodeF_some {ns : List N39} (hl : ns.length < 4000) (t y n : Int) : ∃ ns' r, nodeF ns t y n = some (ns', r) ∧ ns'.length ≤ ns.length + 1 := by
  unfold nodeF
  cases refuses ns t y n with
  | true => exact ⟨_, _, rfl, by omega⟩
  | false =>
    rw [if_neg (by simp)]
    by_cases e : y = n
    · rw [if_pos e]; exact ⟨_, _, rfl, by omega⟩
    · rw [if_neg e]
      cases findN ns ⟨t, y, n⟩ with
      | some i => exact ⟨_, _, rfl, by omega⟩
      | none => simp only; rw [if_neg (by omega)]; exact ⟨_, _, rfl, by simp⟩
theorem leafN_neg (n : Int) (h : okI n) : leafN n < 0 ∧ -1002 ≤ leafN n := by
  unfold leafN
  split <;> omega
theorem row_typeI {w : World} {B : Nat} {v : Value} {xs : List Int} (h : Kd.R (Kd.int .i64) 3 w B (fun _ => True) v xs) {k : Nat} (hk : v.ownBlock = some k) : ∃ (cs : Array Value) (fr : Nat × Nat), w.heap[k]? = some (Obj.cells cs 3 fr) := by
  obtain ⟨inner, hown⟩ := Kd.R_own h
  rcases hown.2 with ⟨rfl, _⟩ | ⟨g, cap, cur, rfl, _, hb2, _⟩
  · simp [Value.ownBlock] at hk
  · simp [Value.ownBlock] at hk
    subst hk
    exact ⟨_, _, hb2⟩
theorem Kq.rowI {L : Nat → Prop} {w w1 : World} {B : Nat} {v : Value} {xs : List Int} (hk : Kq L B w w1) (hL : L 3) (h : Kd.R (Kd.int .i64) 3 w B (fun _ => True) v xs) : Kd.R (Kd.int .i64) 3 w1 B (fun _ => True) v xs := by
  have h1 := Kd.R_tight rfl h
  refine Kd.R_mono (Kd.R_step h1 (fun k ho hlt => ?_)) (fun _ _ => trivial)
  obtain ⟨cs, fr, e⟩ := row_typeI h ho.symm
  rw [hk.box _ _ _ _ e hL, e]
theorem L3_3 : L3 3 := by unfold L3; decide
/-- a row of numbers that has just been written -/
theorem lit_row (B : Nat) (w : World) (hB : B ≤ w.heap.size) (xs : List Int) (hl : xs.length ≤ 1000000000) (cs : Array Value) (n : Nat) (hn : xs.length = n) (he : (encs (Value.int .i64) xs).toArray = cs) :
    Kd.R (Kd.int .i64) 3 (w.alloc (.cells cs 3)) B (fun _ => True) (.slice (some ⟨w.heap.size, 0, none⟩) n n) xs := by
  subst he; subst hn
  exact ints_lit w B (fun _ => True) xs hB trivial hl

set_option maxRecDepth 100000 in
set_option maxHeartbeats 16000000 in
theorem limits_calls (w : World) (a0 : Int) (w0 : (Lit.int .i64 a0).wf = true) (a1 : Int) (w1 : (Lit.int .i64 a1).wf = true) (a2 : Int) (w2 : (Lit.int .i64 a2).wf = true) :
    Calls Try.prog 7 #[.int .i64 a0, .int .i64 a1, .int .i64 a2] w fun e w' => e = .returned (.bool true) ∧ Below w.heap.size w w' := by
  obtain ⟨m0, hm0, b0, c0⟩ := mod_ev (a := a0) (n := 1003) (by omega) (by omega)
  obtain ⟨m1, hm1, b1, c1⟩ := mod_ev (a := a1) (n := 1003) (by omega) (by omega)
  obtain ⟨m2, hm2, b2, c2⟩ := mod_ev (a := a2) (n := 4) (by omega) (by omega)
  have HM0 := Aside0.mk hm0
  have HM1 := Aside0.mk hm1
  have HM2 := Aside0.mk hm2
  have HO1 : Aside0 (okI a1) := ⟨w1⟩
  clear hm0 hm1 hm2 w0 w1 w2
  go_enter Try.func7, Try.ntmps7
  go_wp2_with (first
    | (go_at_call 9; refine (awake_calls w).mono ?_; rintro e wa ⟨rfl, hb⟩; have HBA := Aside0.mk hb; clear hb)
    | (go_at_call 23; refine (flagstonedraw_Mod.calls a0 1003 m0 wa HM0.out).mono ?_; rintro e wb ⟨rfl, hd⟩; have HBB := Aside0.mk (below_then HBA.out HBA.out.size hd.below); clear hd))
  have HW5 := Aside0.mk (lit_row w.heap.size wb HBB.out.size [a0, m0 - 1, 1000, 1001, -1] (by simp) #[.int .i64 a0, .int .i64 (m0 - 1), .int .i64 1000, .int .i64 1001, .int .i64 (-1)] 5 rfl rfl)
  have HBL : Aside0 (Below w.heap.size w (wb.alloc (.cells #[.int .i64 a0, .int .i64 (m0 - 1), .int .i64 1000, .int .i64 1001, .int .i64 (-1)] 3))) := ⟨HBB.out.alloc HBB.out.size _⟩
  generalize wb.alloc (.cells #[.int .i64 a0, .int .i64 (m0 - 1), .int .i64 1000, .int .i64 1001, .int .i64 (-1)] 3) = wl at HW5 HBL ⊢
  generalize (⟨wb.heap.size, 0, none⟩ : Addr) = g5 at HW5 ⊢
  have hx5 : ([a0, m0 - 1, 1000, 1001, -1] : List Int).length = 5 := rfl
  have HX5 := Aside0.mk hx5
  generalize ([a0, m0 - 1, 1000, 1001, -1] : List Int) = x5 at HW5 HX5 hx5
  clear hx5 HM0 HBA HBB
  have hmm1 := b1
  go_loopw [22] (fun v22 wr => ∃ i : Int, v22 = .int .i64 i ∧ Aside0 (0 ≤ i ∧ i ≤ 5) ∧ Aside0 (Kd.R (Kd.int .i64) 3 wr w.heap.size (fun _ => True) (.slice (some g5) 5 5) x5) ∧ Aside0 (Below w.heap.size w wr)) (fun v22 _ => 5 - (intOf v22).toNat)
  case atStart => exact ⟨0, rfl, ⟨by omega⟩, HW5, HBL⟩
  case round =>
    clear HW5 HBL
    obtain ⟨i, rfl, HI, HW5, HBL⟩ := hrel
    by_cases hlt : i < 5
    · have p0 : 0 ≤ i := HI.out.1
      have dl : decide (i < 5) = true := by simpa using hlt
      obtain ⟨ad, ea, hx⟩ := Kd.at_int (Kd.R_reads' HW5.out).2.2 i p0 (by rw [HX5.out]; exact hlt)
      cases ea
      generalize rd x5 i = t at hx
      obtain ⟨wo, rfl⟩ : ∃ wo : World, wo = wr := ⟨_, rfl⟩
      have tok1 : True := trivial
      go_wp2_with (first
        | (go_at_call 23; have _t := tok1; clear tok1; refine (flagstonedraw_Mod.calls a1 1003 m1 _ HM1.out).mono ?_; rintro e wb ⟨rfl, hd⟩; have HD1 := Aside0.mk hd.below; clear hd)
        | (go_at_call 23; refine (flagstonedraw_Mod.calls a2 4 m2 _ HM2.out).mono ?_; rintro e wc ⟨rfl, hd⟩; have HD2 := Aside0.mk (below_then HD1.out HD1.out.size hd.below); clear hd))
      have HBW : Aside0 (w.heap.size ≤ wc.heap.size) := ⟨Nat.le_trans HBL.out.size HD2.out.size⟩
      have HW3 := Aside0.mk (lit_row w.heap.size wc HBW.out [a1, m1 - 1, m2] (by simp) #[.int .i64 a1, .int .i64 (m1 - 1), .int .i64 m2] 3 rfl rfl)
      have HKA : Aside0 (Kq L3 w.heap.size wo (wc.alloc (.cells #[.int .i64 a1, .int .i64 (m1 - 1), .int .i64 m2] 3))) := ⟨Kq.of_below (HD2.out.alloc HD2.out.size _) HBL.out.size⟩
      have HW5b := Aside0.mk (HKA.out.rowI L3_3 HW5.out)
      have HBLb := Aside0.mk (HBL.out.trans HKA.out.b)
      generalize wc.alloc (.cells #[.int .i64 a1, .int .i64 (m1 - 1), .int .i64 m2] 3) = wm at HW3 HW5b HBLb ⊢
      generalize (⟨wc.heap.size, 0, none⟩ : Addr) = g3 at HW3 ⊢
      have HOK3 : Aside0 (∀ j, 0 ≤ j → j < 3 → okI (rd [a1, m1 - 1, m2] j)) := ⟨fun j h0 h1 => by
        have : j = 0 ∨ j = 1 ∨ j = 2 := by omega
        rcases this with rfl | rfl | rfl
        · exact HO1.out
        · exact okI_of (by show -1000000 ≤ m1 - 1; omega) (by show m1 - 1 ≤ 1000000; omega)
        · exact okI_of (by show -1000000 ≤ m2; omega) (by show m2 ≤ 1000000; omega)⟩
      have HX3 : Aside0 (([a1, m1 - 1, m2] : List Int).length = 3) := ⟨rfl⟩
      generalize ([a1, m1 - 1, m2] : List Int) = x3 at HW3 HOK3 HX3
      clear HW5 HBL HBW HKA HD1 HD2 hx
      go_loopw [34] (fun v34 wr => ∃ j : Int, v34 = .int .i64 j ∧ Aside0 (0 ≤ j ∧ j ≤ 3) ∧ Aside0 (Kd.R (Kd.int .i64) 3 wr w.heap.size (fun _ => True) (.slice (some g5) 5 5) x5) ∧ Aside0 (Kd.R (Kd.int .i64) 3 wr w.heap.size (fun _ => True) (.slice (some g3) 3 3) x3) ∧ Aside0 (Below w.heap.size w wr)) (fun v34 _ => 3 - (intOf v34).toNat)
      case atStart => exact ⟨0, rfl, ⟨by omega⟩, HW5b, HW3, HBLb⟩
      case round =>
        clear HW5b HW3 HBLb
        obtain ⟨j, rfl, HJ, HW5, HW3, HBL⟩ := hrel
        by_cases hlj : j < 3
        · have j0 : 0 ≤ j := HJ.out.1
          have dj : decide (j < 3) = true := by simpa using hlj
          have HON := Aside0.mk (HOK3.out j j0 hlj)
          obtain ⟨ad3, ea, hx3⟩ := Kd.at_int (Kd.R_reads' HW3.out).2.2 j j0 (by rw [HX3.out]; exact hlj)
          cases ea
          generalize rd x3 j = n at hx3 HON
          obtain ⟨wo2, rfl⟩ : ∃ wo2 : World, wo2 = wr := ⟨_, rfl⟩
          have HLN := Aside0.mk (leafN_neg n HON.out)
          obtain ⟨n1, r1, hr1, l1⟩ := nodeF_some (ns := []) (by simp) t (leafN n) (-1)
          obtain ⟨n2, r2, hr2, l2⟩ := nodeF_some (ns := n1) (by simp at l1; omega) t (-2) (leafN n)
          have hw1 := (nodeF_ok WF.nil hr1).1
          have hw2 := (nodeF_ok hw1 hr2).1
          obtain ⟨r3, hr3⟩ := ch_leaf hw2 (-1) (-2) HLN.out.1
          obtain ⟨r4, hr4⟩ := and_leaf hw2 (f := -2) (leafN n) (by omega)
          obtain ⟨r5, hr5⟩ := or_leaf hw2 (-1) HLN.out.1
          obtain ⟨r6, hr6⟩ := ch_leaf hw2 (f := -2) (leafN n) (-1) (by omega)
          have okl : okI (leafN n) := okI_of (by have := HLN.out; omega) (by have := HLN.out; omega)
          have okt : okI (-2) := okI_of (by omega) (by omega)
          have oko : okI (-1) := okI_of (by omega) (by omega)
          have HB1 := Aside0.mk (both_node hr1)
          have HB2 := Aside0.mk (both_node hr2)
          have HB3 := Aside0.mk (both_not hw2 okl hr3)
          have HB4 := Aside0.mk (both_and hw2 okt okl hr4)
          have HB5 := Aside0.mk (both_or hw2 okl oko hr5)
          have HB6 := Aside0.mk (both_choose hw2 okt hr6)
          have q1 : (r1 != r1) = false := by simp
          have q2 : (r2 != r2) = false := by simp
          have q3 : (r3 != r3) = false := by simp
          have q4 : (r4 != r4) = false := by simp
          have q5 : (r5 != r5) = false := by simp
          have q6 : (r6 != r6) = false := by simp
          have q7 : (leafN n != leafN n) = false := by simp
          clear hr1 hr2 hr3 hr4 hr5 hr6 l1 l2 hw1 hw2 okl okt oko
          go_upto_region 10 with (first | (go_at_call 22; refine (newP_calls wo2).mono ?_; rintro e w5 ⟨rfl, h1, b1, s1⟩; have H1 := Aside0.mk h1; have B1 := Aside0.mk b1; have S1 := Aside0.mk s1; clear h1 b1 s1) | (go_at_call 24; refine (newR_calls w5).mono ?_; rintro e w6 ⟨rfl, h2, b2, s2⟩; have HT := Aside0.mk (two_fresh HBL.out.size H1.out B1.out S1.out h2 b2); have HK6 : Aside0 (Kq L3 w.heap.size wo2 w6) := ⟨Kq.of_below (below_then B1.out B1.out.size b2) HBL.out.size⟩; clear h2 b2 s2))
          generalize wo2.heap.size + 1 = S at HT ⊢
          generalize w5.heap.size + 1 = S' at HT ⊢
          clear H1 B1 S1
          go_upto_region 12 with (first | (go_at_call 25; refine (leafP_calls S n _ HON.out).mono ?_; rintro e w' ⟨rfl, rfl⟩) | (go_at_call 26; refine (leafR_calls S' n _ HON.out).mono ?_; rintro e w' ⟨rfl, rfl⟩))
          go_upto_region 13 with (go_at_call 26; refine (leafR_calls S' n _ HON.out).mono ?_; rintro e w' ⟨rfl, rfl⟩)
          generalize leafN n = lf at *
          have tok1 : True := trivial
          have tok2 : True := trivial
          go_upto_region 15 with (first
            | (go_at_call 18; have _t := tok1; clear tok1; refine (HT.out.callP (fun m v hS => HB1.out.1 S m v false _ hS)).mono ?_; rintro e w7 ⟨rfl, ht, hk⟩; have HT1 := Aside0.mk ht; have HK7 := Aside0.mk (HK6.out.trans hk); clear ht hk)
            | (go_at_call 27; have _t := tok2; clear tok2; refine (HT1.out.callR (fun m v hS => HB1.out.2 S' m v false _ hS)).mono ?_; rintro e w8 ⟨rfl, ht, hk⟩; have HT2 := Aside0.mk ht; have HK8 := Aside0.mk (HK7.out.trans hk); clear ht hk)
            | (go_at_call 18; refine (HT2.out.callP (fun m v hS => HB2.out.1 S m v false _ hS)).mono ?_; rintro e w9 ⟨rfl, ht, hk⟩; have HT3 := Aside0.mk ht; have HK9 := Aside0.mk (HK8.out.trans hk); clear ht hk)
            | (go_at_call 27; refine (HT3.out.callR (fun m v hS => HB2.out.2 S' m v false _ hS)).mono ?_; rintro e w10 ⟨rfl, ht, hk⟩; have HT4 := Aside0.mk ht; have HK10 := Aside0.mk (HK9.out.trans hk); clear ht hk))
          clear HT1 HT2 HT3 HK6 HK7 HK8 HK9 HT HB1 HB2
          go_wp2_with (first
            | (go_at_call 20; refine (HT4.out.callP (fun m v hS => HB3.out.1 S m v false _ hS)).mono ?_; rintro e w11 ⟨rfl, ht, hk⟩; have HT5 := Aside0.mk ht; have HK11 := Aside0.mk (HK10.out.trans hk); clear ht hk)
            | (go_at_call 28; refine (HT5.out.callR (fun m v hS => HB3.out.2 S' m v false _ hS)).mono ?_; rintro e w12 ⟨rfl, ht, hk⟩; have HT6 := Aside0.mk ht; have HK12 := Aside0.mk (HK11.out.trans hk); clear ht hk)
            | (go_at_call 21; refine (HT6.out.callP (fun m v hS => HB4.out.1 S m v false _ hS)).mono ?_; rintro e w13 ⟨rfl, ht, hk⟩; have HT7 := Aside0.mk ht; have HK13 := Aside0.mk (HK12.out.trans hk); clear ht hk)
            | (go_at_call 29; refine (HT7.out.callR (fun m v hS => HB4.out.2 S' m v false _ hS)).mono ?_; rintro e w14 ⟨rfl, ht, hk⟩; have HT8 := Aside0.mk ht; have HK14 := Aside0.mk (HK13.out.trans hk); clear ht hk)
            | (go_at_call 30; refine (HT8.out.callP (fun m v hS => HB5.out.1 S m v false _ hS)).mono ?_; rintro e w15 ⟨rfl, ht, hk⟩; have HT9 := Aside0.mk ht; have HK15 := Aside0.mk (HK14.out.trans hk); clear ht hk)
            | (go_at_call 31; refine (HT9.out.callR (fun m v hS => HB5.out.2 S' m v false _ hS)).mono ?_; rintro e w16 ⟨rfl, ht, hk⟩; have HT10 := Aside0.mk ht; have HK16 := Aside0.mk (HK15.out.trans hk); clear ht hk)
            | (go_at_call 32; refine (HT10.out.callP (fun m v hS => HB6.out.1 S m v false _ hS)).mono ?_; rintro e w17 ⟨rfl, ht, hk⟩; have HT11 := Aside0.mk ht; have HK17 := Aside0.mk (HK16.out.trans hk); clear ht hk)
            | (go_at_call 33; refine (HT11.out.callR (fun m v hS => HB6.out.2 S' m v false _ hS)).mono ?_; rintro e w18 ⟨rfl, ht, hk⟩; have HT12 := Aside0.mk ht; have HK18 := Aside0.mk (HK17.out.trans hk); clear ht hk))
          go_roundw
          case measure => simp [intOf]; omega
          case rel => exact ⟨j + 1, rfl, ⟨by omega⟩, ⟨HK18.out.rowI L3_3 HW5.out⟩, ⟨HK18.out.rowI L3_3 HW3.out⟩, ⟨HBL.out.trans HK18.out.b⟩⟩
        · have dj : decide (j < 3) = false := by simpa using hlj
          go_wp2
          go_roundw
          case measure => simp [intOf]; omega
          case rel => exact ⟨i + 1, rfl, ⟨by omega⟩, HW5, HBL⟩
    · have dl : decide (i < 5) = false := by simpa using hlt
      go_wp2
      go_ret
      exact ⟨rfl, HBL.out⟩
end Go.Proofs.Ytihikenmknphkaa.Q
