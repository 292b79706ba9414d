/-
 Diagrams: the walk of DiagramQuestions. No condition beyond those that stand in it. (Written by wip/tools/gen_quest.py.)
-/
import Derived.Test.YtihikenmknphkaaB1
namespace Go.Proofs.Ytihikenmknphkaa.Q
open Go Go.RowKit Go.Maps Go.Proofs.YtihikenmknphkaaW.PrintWords Go.Proofs.YtihikenmknphkaaW.PrintLast Go.Proofs.YtihikenmknphkaaW.PrintMore Go.Proofs.Ytihikenmknphkaa.M
set_option linter.unusedVariables false
set_option linter.unusedSimpArgs false

def quest.T9 : Bool × List (List Nat × List Nat) := (true, [([], []), ([0], [0]), ([1], [1]), ([2], [2]), ([], []), ([4], [4]), ([3, 5], [3, 5]), ([], []), ([7], [7]), ([8], [8]), ([9], [9]), ([], []), ([11], [11]), ([10, 12, 6], [10, 12]), ([6, 13, 13], [6, 13]), ([14], [14]), ([15, 14], [15]), ([16], [16]), ([17, 16], [16, 17]), ([18, 16], [16, 18]), ([19, 16], [16, 19]), ([16], [16]), ([21, 16], [16, 21]), ([20, 22, 16, 16], [16, 20, 22]), ([16], [16]), ([24, 16], [16, 24]), ([25, 16], [16, 25]), ([26, 16], [16, 26]), ([16], [16]), ([28, 16], [16, 28]), ([27, 29, 23, 16], [16, 27, 29]), ([23, 30, 16], [16, 23, 30]), ([16, 31], [16, 31])])
def quest.B9 : List Nat := [0, 1, 3, 7, 0, 16, 63, 0, 128, 384, 896, 0, 2048, 8191, 16383, 32767, 65535, 131071, 262143, 524287, 1048575, 131071, 2228223, 8388607, 131071, 16908287, 50462719, 117571583, 131071, 268566527, 1073741823, 2147483647, 4294967295]
theorem quest.tab9 : rtab .any (opsOf Try.f4 9) = quest.T9 := by kernel_rfl
theorem quest.bits9 : waitsOk quest.T9.2 quest.B9 = true := by kernel_rfl
def quest.T11 : Bool × List (List Nat × List Nat) := (true, [([], []), ([0], [0]), ([1], [1]), ([2], [2]), ([], []), ([4], [4]), ([3, 5], [3, 5]), ([6], [6]), ([7], [7]), ([7], [7]), ([], []), ([10, 8, 6, 0, 1, 2, 3, 4, 5, 6, 7, 8, 10], [8, 10]), ([9, 11, 0, 1, 2, 3, 4, 5, 6, 7, 8, 9, 10, 11], [9])])
def quest.B11 : List Nat := [0, 1, 3, 7, 0, 16, 63, 127, 255, 255, 0, 1535, 4095]
theorem quest.tab11 : rtab .any (opsOf Try.f4 11) = quest.T11 := by kernel_rfl
theorem quest.bits11 : waitsOk quest.T11.2 quest.B11 = true := by kernel_rfl
def quest.T15 : Bool × List (List Nat × List Nat) := (true, [([], []), ([0], [0]), ([1], [1]), ([2], [2]), ([], []), ([4], [4]), ([3, 5], [3, 5]), ([6], [6]), ([7], [7]), ([7], [7]), ([], []), ([10, 8, 6, 0, 1, 2, 3, 4, 5, 6, 7, 8, 10], [8, 10]), ([9, 11, 0, 1, 2, 3, 4, 5, 6, 7, 8, 9, 10, 11], [9])])
def quest.B15 : List Nat := [0, 1, 3, 7, 0, 16, 63, 127, 255, 255, 0, 1535, 4095]
theorem quest.tab15 : rtab .any (opsOf Try.f4 15) = quest.T15 := by kernel_rfl
theorem quest.bits15 : waitsOk quest.T15.2 quest.B15 = true := by kernel_rfl
def quest.T16 : Bool × List (List Nat × List Nat) := (true, [([], []), ([0], [0]), ([1], [1]), ([2], [2]), ([], []), ([4], [4]), ([3, 5], [3, 5]), ([6], [6]), ([7], [7]), ([7], [7]), ([], []), ([10, 8, 6, 0, 1, 2, 3, 4, 5, 6, 7, 8, 10], [8, 10]), ([9, 11, 0, 1, 2, 3, 4, 5, 6, 7, 8, 9, 10, 11], [9])])
def quest.B16 : List Nat := [0, 1, 3, 7, 0, 16, 63, 127, 255, 255, 0, 1535, 4095]
theorem quest.tab16 : rtab .any (opsOf Try.f4 16) = quest.T16 := by kernel_rfl
theorem quest.bits16 : waitsOk quest.T16.2 quest.B16 = true := by kernel_rfl
def quest.T17 : Bool × List (List Nat × List Nat) := (true, [([], []), ([0], [0]), ([], []), ([2], [2]), ([1, 3], [1, 3]), ([4], [4]), ([5], [5]), ([6, 5, 5], [5, 6]), ([7], [7]), ([8, 7], [7, 8]), ([7], [7]), ([10, 7], [7, 10]), ([9, 11, 7], [7, 9, 11]), ([7, 12, 5], [5, 7, 12]), ([5, 13], [5, 13]), ([14, 7], [14]), ([15], [15]), ([16, 15, 15], [15, 16]), ([17], [17]), ([18, 17], [17, 18]), ([17], [17]), ([20, 17], [17, 20]), ([19, 21, 17], [17, 19, 21]), ([17, 22, 15], [15, 17, 22]), ([15, 23], [15, 23]), ([24, 17], [24]), ([25], [25]), ([26, 25], [25, 26]), ([27, 25], [25, 27]), ([28, 25], [25, 28]), ([25], [25]), ([30, 25], [25, 30]), ([25], [25]), ([32, 25], [25, 32]), ([25], [25]), ([34, 25], [25, 34]), ([29, 31, 33, 35, 25, 25], [25, 29, 31, 33, 35]), ([25], [25]), ([37, 25], [25, 37]), ([36, 38, 25], [25, 36, 38]), ([25, 39], [25, 39])])
def quest.B17 : List Nat := [0, 1, 0, 4, 15, 31, 63, 127, 255, 511, 255, 1279, 4095, 8191, 16383, 32767, 65535, 131071, 262143, 524287, 262143, 1310719, 4194303, 8388607, 16777215, 33554431, 67108863, 134217727, 268435455, 536870911, 67108863, 1140850687, 67108863, 4362076159, 67108863, 17246978047, 68719476735, 67108863, 137506062335, 549755813887, 1099511627775]
theorem quest.tab17 : rtab .any (opsOf Try.f4 17) = quest.T17 := by kernel_rfl
theorem quest.bits17 : waitsOk quest.T17.2 quest.B17 = true := by kernel_rfl
set_option maxRecDepth 100000 in
set_option maxHeartbeats 16000000 in
theorem questions_calls (w : World) (A0 : Option Addr) (c0 : Nat) (l0 : List Int) (hr0 : Kd.C (Kd.int .u8) w A0 l0.length l0) (hc0 : l0.length ≤ c0) (hby : bytesL l0) (id : Int) (wid : (Lit.int .i64 id).wf = true) :
 Calls Try.prog 4 #[.slice A0 l0.length c0, .int .i64 id] w fun e w' => e = .returned (.bool true) ∧ Below w.heap.size w w' := by
 have HR := Aside0.mk hr0
 have HC := Aside0.mk hc0
 have HY := Aside0.mk hby
 have HID : Aside0 (okI id) := ⟨wid⟩
 clear hr0 hc0 hby wid
 go_enter Try.func4, Try.ntmps4
 go_upto_region 6 with (first
  | (go_at_call 9; refine (awake_calls w).mono ?_; rintro e w1 ⟨rfl, hb⟩; have HB := Aside0.mk hb; clear hb)
  | (go_at_call 10; refine (made_calls w w1 A0 c0 l0 90 HB.out HR.out HC.out HY.out (by omega) (by omega)).mono ?_; rintro e w2 ⟨G, S, S', A, c, ns, all, rfl, hm, hs, hv, h1, hl, hb⟩; have HMA := Aside0.mk hm; have HB2 := Aside0.mk hb; have HLE := Aside0.mk hl; have HSIX := Aside0.mk hs; have HV := Aside0.mk hv; have q3 := hm.c3; clear hm hs hv h1 hl hb))
 have q2 := HMA.out.c2
 clear q3 HB HR HC HY
 have hle := HLE.out
 have HW := Aside0.mk HSIX.out.wf
 have HLN : Aside0 (ns.length ≤ 1600) := ⟨HSIX.out.len⟩
 clear HSIX
 go_wp2
 go_loopw [30] (fun v30 wr => ∃ i : Int, v30 = .int .i64 i ∧ Aside0 (0 ≤ i ∧ i ≤ all.length) ∧ Aside0 (MkAt w.heap.size wr G S S' A c ns ns all) ∧ Aside0 (Below w.heap.size w wr)) (fun v30 _ => all.length - (intOf v30).toNat)
 case atStart => exact ⟨0, rfl, ⟨by omega⟩, HMA, HB2⟩
 case round =>
  clear HMA HB2 q2
  obtain ⟨i, rfl, HI, HMr, HBr⟩ := hrel
  by_cases hlt : i < (all.length : Int)
  · have p0 : 0 ≤ i := HI.out.1
    have dl : decide (i < (all.length : Int)) = true := by simpa using hlt
    obtain ⟨ad, eA, hx0, hx1⟩ := at_T32 (Kd.R_reads' HMr.out.row).2.2 i p0 hlt
    subst eA
    have HVX : Aside0 (validN ns (rd all i) = true) := ⟨HV.out _ (rd_mem p0 hlt)⟩
    generalize rd all i = x at hx0 hx1 HVX
    have HOX : Aside0 (okI x) := ⟨okI_valid HVX.out (by have := HLN.out; omega)⟩
    obtain ⟨m, v, m', v', hmc⟩ := HMr.out.open_
    have HMC := Aside0.mk hmc
    clear hmc
    obtain ⟨wo, rfl⟩ : ∃ wo : World, wo = wr := ⟨_, rfl⟩
    go_upto_region 9 with fail
    have hbx : ((wo.alloc (.cells #[.int .i64 x, .int .i64 x] 32)).heap[wo.heap.size]? = some (boxP x)) := by simpa [boxP] using blk_new wo (.cells #[.int .i64 x, .int .i64 x] 32)
    have hfr0 : Fr wo (wo.alloc (.cells #[.int .i64 x, .int .i64 x] 32)) (fun _ => False) := Fr.alloc (Fr.refl wo (fun _ => False)) _
    have HM0 := Aside0.mk (HMC.out.fr hfr0).drew
    have Fb7 := Aside0.mk (HMC.out.free (b := wo.heap.size) (Nat.le_refl _))
    have HX0 : Aside0 ((wo.alloc (.cells #[.int .i64 x, .int .i64 x] 32)).drew.heap[wo.heap.size]? = some (boxP x)) := ⟨hbx⟩
    have HL0 : Aside0 (Below w.heap.size w (wo.alloc (.cells #[.int .i64 x, .int .i64 x] 32)).drew) := ⟨(fr_low HBr.out HMC.out.size hfr0).drew⟩
    clear hbx hfr0 hx0 hx1
    generalize (wo.alloc (.cells #[.int .i64 x, .int .i64 x] 32)) = w2 at HM0 HX0 HL0 ⊢
    generalize wo.heap.size = b7 at HX0 Fb7 ⊢
    obtain ⟨ks, hks⟩ := same_ev (leavesF ns x) (by have := leavesF_length ns x; omega)
    have HKS := Aside0.mk hks
    clear hks
    have dsz : ((sizeF ns x : Int) != (sizeF ns x : Int)) = false := by simp
    refine start_ (n := 33) (S := fun w' => w'.cell? ⟨G, 0, none⟩ = some (.pointer (some ⟨S, 0, none⟩)) ∧ w'.cell? ⟨G, 1, none⟩ = some (.pointer (some ⟨S', 0, none⟩)) ∧ w'.cell? ⟨b7, 0, none⟩ = some (.int .i64 x) ∧ w'.cell? ⟨b7, 1, none⟩ = some (.int .i64 x)) (ds := []) #[false, false, false, false, false, false, false, false, false, false, false, false, false, false, false, false, false, false, false, false, false, false, false, false, false, false, false, false, false, false, false, false, false] (by kernel_rfl) rfl rfl ⟨HM0.out.c0, HM0.out.c1, (blk_cell HX0.out 0).trans rfl, (blk_cell HX0.out 1).trans rfl⟩ (fun hHeld => ?_)
    refine with_tabW quest.tab9 quest.bits9 (fun HT_ HW_ => ?_)
    refine pure_ (i := 0) (N := some 34) (v := ?_) (a' := ?_) #[true, false, false, false, false, false, false, false, false, false, false, false, false, false, false, false, false, false, false, false, false, false, false, false, false, false, false, false, false, false, false, false, false] rfl rfl (any_of HT_.out (by kernel_rfl)) (fun _ _ _ h => h) (Or.inl ⟨by rfl, ?_⟩) ?_ ?_
    rotate_left
    · intro w'
      go_simp
      with_reducible rfl
    rotate_left
    · simp only [Act.put, List.setIfInBounds_toArray, List.set_cons_zero, List.set_cons_succ, i64_w, i32_w]
      rfl
    refine pure_ (i := 1) (N := some 35) (v := ?_) (a' := ?_) #[true, true, false, false, false, false, false, false, false, false, false, false, false, false, false, false, false, false, false, false, false, false, false, false, false, false, false, false, false, false, false, false, false] rfl rfl (any_of HT_.out (by kernel_rfl)) (fun _ _ _ h => h) (Or.inl ⟨by rfl, ?_⟩) ?_ ?_
    rotate_left
    · intro w'
      go_simp
      with_reducible rfl
    rotate_left
    · simp only [Act.put, List.setIfInBounds_toArray, List.set_cons_zero, List.set_cons_succ, i64_w, i32_w]
      rfl
    refine pure_ (i := 2) (N := some 36) (v := ?_) (a' := ?_) #[true, true, true, false, false, false, false, false, false, false, false, false, false, false, false, false, false, false, false, false, false, false, false, false, false, false, false, false, false, false, false, false, false] rfl rfl (any_of HT_.out (by kernel_rfl)) (fun _ _ _ h => h) (Or.inl ⟨by rfl, ?_⟩) ?_ ?_
    rotate_left
    · intro w'
      go_simp
      with_reducible rfl
    rotate_left
    · simp only [Act.put, List.setIfInBounds_toArray, List.set_cons_zero, List.set_cons_succ, i64_w, i32_w]
      rfl
    refine pure_ (i := 4) (N := some 38) (v := ?_) (a' := ?_) #[true, true, true, false, true, false, false, false, false, false, false, false, false, false, false, false, false, false, false, false, false, false, false, false, false, false, false, false, false, false, false, false, false] rfl rfl (any_of HT_.out (by kernel_rfl)) (fun _ _ _ h => h) (Or.inl ⟨by rfl, ?_⟩) ?_ ?_
    rotate_left
    · intro w'
      go_simp
      with_reducible rfl
    rotate_left
    · simp only [Act.put, List.setIfInBounds_toArray, List.set_cons_zero, List.set_cons_succ, i64_w, i32_w]
      rfl
    refine pure_ (i := 7) (N := some 41) (v := ?_) (a' := ?_) #[true, true, true, false, true, false, false, true, false, false, false, false, false, false, false, false, false, false, false, false, false, false, false, false, false, false, false, false, false, false, false, false, false] rfl rfl (any_of HT_.out (by kernel_rfl)) (fun _ _ _ h => h) (Or.inl ⟨by rfl, ?_⟩) ?_ ?_
    rotate_left
    · intro w'
      go_simp
      with_reducible rfl
    rotate_left
    · simp only [Act.put, List.setIfInBounds_toArray, List.set_cons_zero, List.set_cons_succ, i64_w, i32_w]
      rfl
    refine pure_ (i := 8) (N := some 42) (v := ?_) (a' := ?_) #[true, true, true, false, true, false, false, true, true, false, false, false, false, false, false, false, false, false, false, false, false, false, false, false, false, false, false, false, false, false, false, false, false] rfl rfl (any_of HT_.out (by kernel_rfl)) (fun _ _ _ h => h) (Or.inl ⟨by rfl, ?_⟩) ?_ ?_
    rotate_left
    · intro w'
      go_simp
      with_reducible rfl
    rotate_left
    · simp only [Act.put, List.setIfInBounds_toArray, List.set_cons_zero, List.set_cons_succ, i64_w, i32_w]
      rfl
    refine pure_ (i := 9) (N := some 43) (v := ?_) (a' := ?_) #[true, true, true, false, true, false, false, true, true, true, false, false, false, false, false, false, false, false, false, false, false, false, false, false, false, false, false, false, false, false, false, false, false] rfl rfl (any_of HT_.out (by kernel_rfl)) (fun _ _ _ h => h) (Or.inl ⟨by rfl, ?_⟩) ?_ ?_
    rotate_left
    · intro w'
      go_simp
      with_reducible rfl
    rotate_left
    · simp only [Act.put, List.setIfInBounds_toArray, List.set_cons_zero, List.set_cons_succ, i64_w, i32_w]
      rfl
    refine pure_ (i := 11) (N := some 45) (v := ?_) (a' := ?_) #[true, true, true, false, true, false, false, true, true, true, false, true, false, false, false, false, false, false, false, false, false, false, false, false, false, false, false, false, false, false, false, false, false] rfl rfl (any_of HT_.out (by kernel_rfl)) (fun _ _ _ h => h) (Or.inl ⟨by rfl, ?_⟩) ?_ ?_
    rotate_left
    · intro w'
      go_simp
      with_reducible rfl
    rotate_left
    · simp only [Act.put, List.setIfInBounds_toArray, List.set_cons_zero, List.set_cons_succ, i64_w, i32_w]
      rfl
    refine take_ (i := 3) (N := some 37) (v := ?_) (a' := ?_) #[true, true, true, true, true, false, false, true, true, true, false, true, false, false, false, false, false, false, false, false, false, false, false, false, false, false, false, false, false, false, false, false, false] rfl rfl (take_ofW HT_.out HW_.out (by kernel_rfl)) (fun _ _ _ h => h) (Or.inl ⟨by rfl, ?_⟩) hHeld ?_ ?_
    rotate_left
    · rintro w' ⟨s0, s1, s2, s3⟩
      go_simp
      with_reducible rfl
    rotate_left
    · simp only [Act.put, List.setIfInBounds_toArray, List.set_cons_zero, List.set_cons_succ, i64_w, i32_w]
      rfl
    refine take_ (i := 5) (N := some 39) (v := ?_) (a' := ?_) #[true, true, true, true, true, true, false, true, true, true, false, true, false, false, false, false, false, false, false, false, false, false, false, false, false, false, false, false, false, false, false, false, false] rfl rfl (take_ofW HT_.out HW_.out (by kernel_rfl)) (fun _ _ _ h => h) (Or.inl ⟨by rfl, ?_⟩) hHeld ?_ ?_
    rotate_left
    · rintro w' ⟨s0, s1, s2, s3⟩
      go_simp
      with_reducible rfl
    rotate_left
    · simp only [Act.put, List.setIfInBounds_toArray, List.set_cons_zero, List.set_cons_succ, i64_w, i32_w]
      rfl
    refine take_ (i := 10) (N := some 44) (v := ?_) (a' := ?_) #[true, true, true, true, true, true, false, true, true, true, true, true, false, false, false, false, false, false, false, false, false, false, false, false, false, false, false, false, false, false, false, false, false] rfl rfl (take_ofW HT_.out HW_.out (by kernel_rfl)) (fun _ _ _ h => h) (Or.inl ⟨by rfl, ?_⟩) hHeld ?_ ?_
    rotate_left
    · rintro w' ⟨s0, s1, s2, s3⟩
      go_simp
      with_reducible rfl
    rotate_left
    · simp only [Act.put, List.setIfInBounds_toArray, List.set_cons_zero, List.set_cons_succ, i64_w, i32_w]
      rfl
    refine take_ (i := 12) (N := some 46) (v := ?_) (a' := ?_) #[true, true, true, true, true, true, false, true, true, true, true, true, true, false, false, false, false, false, false, false, false, false, false, false, false, false, false, false, false, false, false, false, false] rfl rfl (take_ofW HT_.out HW_.out (by kernel_rfl)) (fun _ _ _ h => h) (Or.inl ⟨by rfl, ?_⟩) hHeld ?_ ?_
    rotate_left
    · rintro w' ⟨s0, s1, s2, s3⟩
      go_simp
      with_reducible rfl
    rotate_left
    · simp only [Act.put, List.setIfInBounds_toArray, List.set_cons_zero, List.set_cons_succ, i64_w, i32_w]
      rfl
    refine one_ (i := 6) (N := some 40) #[true, true, true, true, true, true, true, true, true, true, true, true, true, false, false, false, false, false, false, false, false, false, false, false, false, false, false, false, false, false, false, false, false] rfl rfl (one_of HT_.out (by kernel_rfl)) (by decide) (fun K hK => ?_)
    refine goes_ Try.func13 (by kernel_rfl) rfl #[.pointer (some ⟨S, 0, none⟩), .int .i64 x] (by rfl) rfl rfl (by (try simp only [List.map_toArray, List.map_cons, List.map_nil]); first | done | rfl) ?_
    refine (leavesP_calls ns x S m v false _ HW.out HM0.out.p HOX.out).mono ?_
    rintro e w3 ⟨vl, rfl, hrow, hf⟩
    obtain ⟨Al, cl, el⟩ := Kd.R_slice hrow
    subst el
    refine ⟨_, rfl, ?_⟩
    have HR1 := Aside0.mk hrow
    have HM1 := Aside0.mk (HM0.out.fr hf)
    have HX1 := Aside0.mk (fr_box hf HX0.out)
    have HL1 := Aside0.mk (fr_low HL0.out HM0.out.size hf)
    clear hrow hf
    refine hK.out _ _ ⟨HM1.out.c0, HM1.out.c1, (blk_cell HX1.out 0).trans rfl, (blk_cell HX1.out 1).trans rfl⟩ (fun hHeld => ?_)
    clear hK K
    refine norm_ (a' := ?_) ?_ ?_
    rotate_left
    · show Act.put _ (some 40) _ = _
      simp only [Act.put, List.setIfInBounds_toArray, List.set_cons_zero, List.set_cons_succ, i64_w, i32_w]
      rfl
    refine one_ (i := 13) (N := some 47) #[true, true, true, true, true, true, true, true, true, true, true, true, true, true, false, false, false, false, false, false, false, false, false, false, false, false, false, false, false, false, false, false, false] rfl rfl (one_of HT_.out (by kernel_rfl)) (by decide) (fun K hK => ?_)
    refine goes_ Try.func14 (by kernel_rfl) rfl #[.pointer (some ⟨S', 0, none⟩), .int .i64 x] (by rfl) rfl rfl (by (try simp only [List.map_toArray, List.map_cons, List.map_nil]); first | done | rfl) ?_
    refine (leavesR_calls ns x S' m' v' false _ HW.out HM1.out.r).mono ?_
    rintro e w4 ⟨vr, rfl, hrow, hf⟩
    obtain ⟨Ar, cr, er⟩ := Kd.R_slice hrow
    subst er
    refine ⟨_, rfl, ?_⟩
    have HR2 := Aside0.mk hrow
    have HC1 := Aside0.mk (Kd.C_below (Kd.R_reads' HR1.out).2.2 (hf.below (Nat.le_refl _) (fun _ e => e.elim)))
    have HM2 := Aside0.mk (HM1.out.fr hf)
    have HX2 := Aside0.mk (fr_box hf HX1.out)
    have HL2 := Aside0.mk (fr_low HL1.out HM1.out.size hf)
    clear hrow hf
    refine hK.out _ _ ⟨HM2.out.c0, HM2.out.c1, (blk_cell HX2.out 0).trans rfl, (blk_cell HX2.out 1).trans rfl⟩ (fun hHeld => ?_)
    clear hK K
    refine norm_ (a' := ?_) ?_ ?_
    rotate_left
    · show Act.put _ (some 47) _ = _
      simp only [Act.put, List.setIfInBounds_toArray, List.set_cons_zero, List.set_cons_succ, i64_w, i32_w]
      rfl
    refine one_ (i := 14) (N := some 48) #[true, true, true, true, true, true, true, true, true, true, true, true, true, true, true, false, false, false, false, false, false, false, false, false, false, false, false, false, false, false, false, false, false] rfl rfl (one_of HT_.out (by kernel_rfl)) (by decide) (fun K hK => ?_)
    refine goes_ Try.func12 (by kernel_rfl) rfl #[.slice Al (leavesF ns x).length cl, .slice Ar (leavesF ns x).length cr] (by rfl) rfl rfl (by (try simp only [List.map_toArray, List.map_cons, List.map_nil]); first | done | rfl) ?_
    refine (flagstoneref17_Same.calls ks Al cl (leavesF ns x) Ar cr (leavesF ns x) true w4 HC1.out (Kd.R_reads' HR1.out).2.1 (Kd.R_reads' HR2.out).2.2 (Kd.R_reads' HR2.out).2.1 HKS.out).mono ?_
    rintro e w5 ⟨rfl, hd⟩
    refine ⟨_, rfl, ?_⟩
    have hf : Fr w4 w5 (fun _ => False) := Fr.of_below hd.below _
    have HM3 := Aside0.mk (HM2.out.fr hf)
    have HX3 := Aside0.mk (fr_box hf HX2.out)
    have HL3 := Aside0.mk (fr_low HL2.out HM2.out.size hf)
    clear hd hf
    refine hK.out _ _ ⟨HM3.out.c0, HM3.out.c1, (blk_cell HX3.out 0).trans rfl, (blk_cell HX3.out 1).trans rfl⟩ (fun hHeld => ?_)
    clear hK K
    refine norm_ (a' := ?_) ?_ ?_
    rotate_left
    · show Act.put _ (some 48) _ = _
      simp only [Act.put, List.setIfInBounds_toArray, List.set_cons_zero, List.set_cons_succ, i64_w, i32_w]
      rfl
    refine pure_ (i := 15) (N := some 49) (v := ?_) (a' := ?_) #[true, true, true, true, true, true, true, true, true, true, true, true, true, true, true, true, false, false, false, false, false, false, false, false, false, false, false, false, false, false, false, false, false] rfl rfl (any_of HT_.out (by kernel_rfl)) (fun _ _ _ h => h) (Or.inl ⟨by rfl, ?_⟩) ?_ ?_
    rotate_left
    · intro w'
      go_simp
      with_reducible rfl
    rotate_left
    · simp only [Act.put, List.setIfInBounds_toArray, List.set_cons_zero, List.set_cons_succ, i64_w, i32_w]
      rfl
    refine pure_ (i := 16) (N := some 50) (v := ?_) (a' := ?_) #[true, true, true, true, true, true, true, true, true, true, true, true, true, true, true, true, true, false, false, false, false, false, false, false, false, false, false, false, false, false, false, false, false] rfl rfl (any_of HT_.out (by kernel_rfl)) (fun _ _ _ h => h) (Or.inl ⟨by rfl, ?_⟩) ?_ ?_
    rotate_left
    · intro w'
      go_simp
      with_reducible rfl
    rotate_left
    · simp only [Act.put, List.setIfInBounds_toArray, List.set_cons_zero, List.set_cons_succ, i64_w, i32_w]
      rfl
    refine pure_ (i := 17) (N := some 51) (v := ?_) (a' := ?_) #[true, true, true, true, true, true, true, true, true, true, true, true, true, true, true, true, true, true, false, false, false, false, false, false, false, false, false, false, false, false, false, false, false] rfl rfl (any_of HT_.out (by kernel_rfl)) (fun _ _ _ h => h) (Or.inl ⟨by rfl, ?_⟩) ?_ ?_
    rotate_left
    · intro w'
      go_simp
      with_reducible rfl
    rotate_left
    · simp only [Act.put, List.setIfInBounds_toArray, List.set_cons_zero, List.set_cons_succ, i64_w, i32_w]
      rfl
    refine pure_ (i := 18) (N := some 52) (v := ?_) (a' := ?_) #[true, true, true, true, true, true, true, true, true, true, true, true, true, true, true, true, true, true, true, false, false, false, false, false, false, false, false, false, false, false, false, false, false] rfl rfl (any_of HT_.out (by kernel_rfl)) (fun _ _ _ h => h) (Or.inl ⟨by rfl, ?_⟩) ?_ ?_
    rotate_left
    · intro w'
      go_simp
      with_reducible rfl
    rotate_left
    · simp only [Act.put, List.setIfInBounds_toArray, List.set_cons_zero, List.set_cons_succ, i64_w, i32_w]
      rfl
    refine pure_ (i := 19) (N := some 53) (v := ?_) (a' := ?_) #[true, true, true, true, true, true, true, true, true, true, true, true, true, true, true, true, true, true, true, true, false, false, false, false, false, false, false, false, false, false, false, false, false] rfl rfl (any_of HT_.out (by kernel_rfl)) (fun _ _ _ h => h) (Or.inl ⟨by rfl, ?_⟩) ?_ ?_
    rotate_left
    · intro w'
      go_simp
      with_reducible rfl
    rotate_left
    · simp only [Act.put, List.setIfInBounds_toArray, List.set_cons_zero, List.set_cons_succ, i64_w, i32_w]
      rfl
    refine pure_ (i := 21) (N := some 55) (v := ?_) (a' := ?_) #[true, true, true, true, true, true, true, true, true, true, true, true, true, true, true, true, true, true, true, true, false, true, false, false, false, false, false, false, false, false, false, false, false] rfl rfl (any_of HT_.out (by kernel_rfl)) (fun _ _ _ h => h) (Or.inl ⟨by rfl, ?_⟩) ?_ ?_
    rotate_left
    · intro w'
      go_simp
      with_reducible rfl
    rotate_left
    · simp only [Act.put, List.setIfInBounds_toArray, List.set_cons_zero, List.set_cons_succ, i64_w, i32_w]
      rfl
    refine pure_ (i := 24) (N := some 58) (v := ?_) (a' := ?_) #[true, true, true, true, true, true, true, true, true, true, true, true, true, true, true, true, true, true, true, true, false, true, false, false, true, false, false, false, false, false, false, false, false] rfl rfl (any_of HT_.out (by kernel_rfl)) (fun _ _ _ h => h) (Or.inl ⟨by rfl, ?_⟩) ?_ ?_
    rotate_left
    · intro w'
      go_simp
      with_reducible rfl
    rotate_left
    · simp only [Act.put, List.setIfInBounds_toArray, List.set_cons_zero, List.set_cons_succ, i64_w, i32_w]
      rfl
    refine pure_ (i := 25) (N := some 59) (v := ?_) (a' := ?_) #[true, true, true, true, true, true, true, true, true, true, true, true, true, true, true, true, true, true, true, true, false, true, false, false, true, true, false, false, false, false, false, false, false] rfl rfl (any_of HT_.out (by kernel_rfl)) (fun _ _ _ h => h) (Or.inl ⟨by rfl, ?_⟩) ?_ ?_
    rotate_left
    · intro w'
      go_simp
      with_reducible rfl
    rotate_left
    · simp only [Act.put, List.setIfInBounds_toArray, List.set_cons_zero, List.set_cons_succ, i64_w, i32_w]
      rfl
    refine pure_ (i := 26) (N := some 60) (v := ?_) (a' := ?_) #[true, true, true, true, true, true, true, true, true, true, true, true, true, true, true, true, true, true, true, true, false, true, false, false, true, true, true, false, false, false, false, false, false] rfl rfl (any_of HT_.out (by kernel_rfl)) (fun _ _ _ h => h) (Or.inl ⟨by rfl, ?_⟩) ?_ ?_
    rotate_left
    · intro w'
      go_simp
      with_reducible rfl
    rotate_left
    · simp only [Act.put, List.setIfInBounds_toArray, List.set_cons_zero, List.set_cons_succ, i64_w, i32_w]
      rfl
    refine pure_ (i := 28) (N := some 62) (v := ?_) (a' := ?_) #[true, true, true, true, true, true, true, true, true, true, true, true, true, true, true, true, true, true, true, true, false, true, false, false, true, true, true, false, true, false, false, false, false] rfl rfl (any_of HT_.out (by kernel_rfl)) (fun _ _ _ h => h) (Or.inl ⟨by rfl, ?_⟩) ?_ ?_
    rotate_left
    · intro w'
      go_simp
      with_reducible rfl
    rotate_left
    · simp only [Act.put, List.setIfInBounds_toArray, List.set_cons_zero, List.set_cons_succ, i64_w, i32_w]
      rfl
    refine take_ (i := 20) (N := some 54) (v := ?_) (a' := ?_) #[true, true, true, true, true, true, true, true, true, true, true, true, true, true, true, true, true, true, true, true, true, true, false, false, true, true, true, false, true, false, false, false, false] rfl rfl (take_ofW HT_.out HW_.out (by kernel_rfl)) (fun _ _ _ h => h) (Or.inl ⟨by rfl, ?_⟩) hHeld ?_ ?_
    rotate_left
    · rintro w' ⟨s0, s1, s2, s3⟩
      go_simp
      with_reducible rfl
    rotate_left
    · simp only [Act.put, List.setIfInBounds_toArray, List.set_cons_zero, List.set_cons_succ, i64_w, i32_w]
      rfl
    refine take_ (i := 22) (N := some 56) (v := ?_) (a' := ?_) #[true, true, true, true, true, true, true, true, true, true, true, true, true, true, true, true, true, true, true, true, true, true, true, false, true, true, true, false, true, false, false, false, false] rfl rfl (take_ofW HT_.out HW_.out (by kernel_rfl)) (fun _ _ _ h => h) (Or.inl ⟨by rfl, ?_⟩) hHeld ?_ ?_
    rotate_left
    · rintro w' ⟨s0, s1, s2, s3⟩
      go_simp
      with_reducible rfl
    rotate_left
    · simp only [Act.put, List.setIfInBounds_toArray, List.set_cons_zero, List.set_cons_succ, i64_w, i32_w]
      rfl
    refine take_ (i := 27) (N := some 61) (v := ?_) (a' := ?_) #[true, true, true, true, true, true, true, true, true, true, true, true, true, true, true, true, true, true, true, true, true, true, true, false, true, true, true, true, true, false, false, false, false] rfl rfl (take_ofW HT_.out HW_.out (by kernel_rfl)) (fun _ _ _ h => h) (Or.inl ⟨by rfl, ?_⟩) hHeld ?_ ?_
    rotate_left
    · rintro w' ⟨s0, s1, s2, s3⟩
      go_simp
      with_reducible rfl
    rotate_left
    · simp only [Act.put, List.setIfInBounds_toArray, List.set_cons_zero, List.set_cons_succ, i64_w, i32_w]
      rfl
    refine take_ (i := 29) (N := some 63) (v := ?_) (a' := ?_) #[true, true, true, true, true, true, true, true, true, true, true, true, true, true, true, true, true, true, true, true, true, true, true, false, true, true, true, true, true, true, false, false, false] rfl rfl (take_ofW HT_.out HW_.out (by kernel_rfl)) (fun _ _ _ h => h) (Or.inl ⟨by rfl, ?_⟩) hHeld ?_ ?_
    rotate_left
    · rintro w' ⟨s0, s1, s2, s3⟩
      go_simp
      with_reducible rfl
    rotate_left
    · simp only [Act.put, List.setIfInBounds_toArray, List.set_cons_zero, List.set_cons_succ, i64_w, i32_w]
      rfl
    refine one_ (i := 23) (N := some 57) #[true, true, true, true, true, true, true, true, true, true, true, true, true, true, true, true, true, true, true, true, true, true, true, true, true, true, true, true, true, true, false, false, false] rfl rfl (one_of HT_.out (by kernel_rfl)) (by decide) (fun K hK => ?_)
    refine goes_ Try.func15 (by kernel_rfl) rfl #[.pointer (some ⟨S, 0, none⟩), .int .i64 x] (by rfl) rfl rfl (by (try simp only [List.map_toArray, List.map_cons, List.map_nil]); first | done | rfl) ?_
    refine (sizeP_calls ns x S m v false _ HW.out HM3.out.p HOX.out).mono ?_
    rintro e w6 ⟨rfl, hf⟩
    refine ⟨_, rfl, ?_⟩
    have HM4 := Aside0.mk (HM3.out.fr hf)
    have HX4 := Aside0.mk (fr_box hf HX3.out)
    have HL4 := Aside0.mk (fr_low HL3.out HM3.out.size hf)
    clear hf
    refine hK.out _ _ ⟨HM4.out.c0, HM4.out.c1, (blk_cell HX4.out 0).trans rfl, (blk_cell HX4.out 1).trans rfl⟩ (fun hHeld => ?_)
    clear hK K
    refine norm_ (a' := ?_) ?_ ?_
    rotate_left
    · show Act.put _ (some 57) _ = _
      simp only [Act.put, List.setIfInBounds_toArray, List.set_cons_zero, List.set_cons_succ, i64_w, i32_w]
      rfl
    refine one_ (i := 30) (N := some 64) #[true, true, true, true, true, true, true, true, true, true, true, true, true, true, true, true, true, true, true, true, true, true, true, true, true, true, true, true, true, true, true, false, false] rfl rfl (one_of HT_.out (by kernel_rfl)) (by decide) (fun K hK => ?_)
    refine goes_ Try.func16 (by kernel_rfl) rfl #[.pointer (some ⟨S', 0, none⟩), .int .i64 x] (by rfl) rfl rfl (by (try simp only [List.map_toArray, List.map_cons, List.map_nil]); first | done | rfl) ?_
    refine (sizeR_calls ns x S' m' v' false _ HW.out HM4.out.r HOX.out).mono ?_
    rintro e w7 ⟨rfl, hf⟩
    refine ⟨_, rfl, ?_⟩
    have HM5 := Aside0.mk (HM4.out.fr hf)
    have HX5 := Aside0.mk (fr_box hf HX4.out)
    have HL5 := Aside0.mk (fr_low HL4.out HM4.out.size hf)
    clear hf
    refine hK.out _ _ ⟨HM5.out.c0, HM5.out.c1, (blk_cell HX5.out 0).trans rfl, (blk_cell HX5.out 1).trans rfl⟩ (fun hHeld => ?_)
    clear hK K
    refine norm_ (a' := ?_) ?_ ?_
    rotate_left
    · show Act.put _ (some 64) _ = _
      simp only [Act.put, List.setIfInBounds_toArray, List.set_cons_zero, List.set_cons_succ, i64_w, i32_w]
      rfl
    refine pure_ (i := 31) (N := some 65) (v := ?_) (a' := ?_) #[true, true, true, true, true, true, true, true, true, true, true, true, true, true, true, true, true, true, true, true, true, true, true, true, true, true, true, true, true, true, true, true, false] rfl rfl (any_of HT_.out (by kernel_rfl)) (fun _ _ _ h => h) (Or.inl ⟨by rfl, ?_⟩) ?_ ?_
    rotate_left
    · intro w'
      go_simp
      with_reducible rfl
    rotate_left
    · simp only [Act.put, List.setIfInBounds_toArray, List.set_cons_zero, List.set_cons_succ, i64_w, i32_w]
      rfl
    refine pure_ (i := 32) (N := some 66) (v := ?_) (a' := ?_) #[true, true, true, true, true, true, true, true, true, true, true, true, true, true, true, true, true, true, true, true, true, true, true, true, true, true, true, true, true, true, true, true, true] rfl rfl (any_of HT_.out (by kernel_rfl)) (fun _ _ _ h => h) (Or.inl ⟨by rfl, ?_⟩) ?_ ?_
    rotate_left
    · intro w'
      go_simp
      with_reducible rfl
    rotate_left
    · simp only [Act.put, List.setIfInBounds_toArray, List.set_cons_zero, List.set_cons_succ, i64_w, i32_w]
      rfl
    refine done_ (done_of HT_.out (by kernel_rfl)) ?_
    clear hHeld HR1 HR2 HC1 HM0 HM1 HM2 HM3 HM4 HX0 HX1 HX2 HX3 HX4 HL0 HL1 HL2 HL3 HL4 HKS
    go_upto_region 11 with fail
    clear dsz
    have M := Aside0.mk HM5.out.drew
    have LB : Aside0 (Below w.heap.size w w7.drew) := ⟨HL5.out.drew⟩
    have Xb7 : Aside0 (w7.drew.heap[b7]? = some (boxP x)) := ⟨HX5.out⟩
    refine start_ (n := 13) (S := fun w' => True) (ds := []) #[false, false, false, false, false, false, false, false, false, false, false, false, false] (by kernel_rfl) rfl rfl trivial (fun hHeld => ?_)
    refine with_tabW quest.tab11 quest.bits11 (fun HT_ HW_ => ?_)
    generalize w7.drew = wp1 at M LB Xb7 hHeld ⊢
    refine pure_ (i := 0) (N := some 68) (v := ?_) (a' := ?_) #[true, false, false, false, false, false, false, false, false, false, false, false, false] rfl rfl (any_of HT_.out (by kernel_rfl)) (fun _ _ _ h => h) (Or.inl ⟨by rfl, ?_⟩) ?_ ?_
    rotate_left
    · intro w'
      go_simp
      with_reducible rfl
    rotate_left
    · simp only [Act.put, List.setIfInBounds_toArray, List.set_cons_zero, List.set_cons_succ, i64_w, i32_w]
      rfl
    refine pure_ (i := 1) (N := some 69) (v := ?_) (a' := ?_) #[true, true, false, false, false, false, false, false, false, false, false, false, false] rfl rfl (any_of HT_.out (by kernel_rfl)) (fun _ _ _ h => h) (Or.inl ⟨by rfl, ?_⟩) ?_ ?_
    rotate_left
    · intro w'
      go_simp
      with_reducible rfl
    rotate_left
    · simp only [Act.put, List.setIfInBounds_toArray, List.set_cons_zero, List.set_cons_succ, i64_w, i32_w]
      rfl
    refine pure_ (i := 2) (N := some 70) (v := ?_) (a' := ?_) #[true, true, true, false, false, false, false, false, false, false, false, false, false] rfl rfl (any_of HT_.out (by kernel_rfl)) (fun _ _ _ h => h) (Or.inl ⟨by rfl, ?_⟩) ?_ ?_
    rotate_left
    · intro w'
      go_simp
      with_reducible rfl
    rotate_left
    · simp only [Act.put, List.setIfInBounds_toArray, List.set_cons_zero, List.set_cons_succ, i64_w, i32_w]
      rfl
    refine pure_ (i := 4) (N := some 72) (v := ?_) (a' := ?_) #[true, true, true, false, true, false, false, false, false, false, false, false, false] rfl rfl (any_of HT_.out (by kernel_rfl)) (fun _ _ _ h => h) (Or.inl ⟨by rfl, ?_⟩) ?_ ?_
    rotate_left
    · intro w'
      go_simp
      with_reducible rfl
    rotate_left
    · simp only [Act.put, List.setIfInBounds_toArray, List.set_cons_zero, List.set_cons_succ, i64_w, i32_w]
      rfl
    refine inv_at [3, 5, 6, 7, 8, 9, 10, 11, 12] (fun a0_ b a w' => ∃ (b8 : Nat) (m10_ : Value), a = putSel a0_ b [(3, 71, .pointer (some ⟨S, 0, none⟩)), (5, 73, .int .i64 (x)), (6, 74, .tuple #[.agg #[.int .i64 (atN ns (x)).f0, .int .i64 (atN ns (x)).f1, .int .i64 (atN ns (x)).f2], .bool (atB ns (x))]), (7, 67, .tuple #[.agg #[.int .i64 (atN ns (x)).f0, .int .i64 (atN ns (x)).f1, .int .i64 (atN ns (x)).f2], .bool (atB ns (x))]), (8, 75, .agg #[.int .i64 (atN ns (x)).f0, .int .i64 (atN ns (x)).f1, .int .i64 (atN ns (x)).f2]), (9, 76, .bool (atB ns (x))), (10, 8, m10_), (12, 9, .bool (atB ns (x)))] ∧ (MkC w.heap.size w' G S S' m v m' v' (some ad) c ns all) ∧ (Below w.heap.size w w') ∧ (w'.heap[b7]? = some (boxP x)) ∧ (b 10 = true → b 11 = false → w'.heap[b8]? = some (Obj.cells #[.int .i64 0, .int .i64 0, .int .i64 0] 39 (0, 0))) ∧ (b 11 = true → w'.heap[b8]? = some (boxN (atN ns (x)))) ∧ (b 10 = true → Free G S S' m v m' v' (some ad) all.length c b8) ∧ (b 10 = true → w.heap.size ≤ b8) ∧ (b 10 = true → b8 ≠ b7) ∧ (b 10 = true → (m10_ : Value) = .pointer (some ⟨b8, 0, none⟩))) HT_.out HW_.out (by kernel_rfl) (by kernel_rfl) ?_ ?_ ?_
    · exact ⟨0, .bool false, by simp only [putSel, Bool.false_eq_true, if_false], M.out, LB.out, Xb7.out, fun h_ => absurd h_ (by decide), fun h_ => absurd h_ (by decide), fun h_ => absurd h_ (by decide), fun h_ => absurd h_ (by decide), fun h_ => absurd h_ (by decide), fun h_ => absurd h_ (by decide)⟩
    · skip
      clear LB M Xb7
      refine steps_cons ?_ ?_
      · as_aux_lemma =>
        rintro b a w' ⟨b8, m10_, ha, Q_M, Q_LB, Q_Xb7, Q_Z, Q_Y, Q_F, Q_E, Q_Db7, Q_X10_⟩ hb_ hon hoff
        refine ⟨_, rfl, fun K hK => ?_⟩
        have e70 : a.tmps[70]? = some (.pointer (some ⟨G, 0, none⟩)) := by rw [ha]; exact (putSel_off rfl).trans rfl
        replace ha := Aside0.mk ha
        have M := Aside0.mk Q_M
        have LB := Aside0.mk Q_LB
        have Xb7 := Aside0.mk Q_Xb7
        have q0 := M.out.c0
        refine value_ (w1 := w') (v := .pointer (some ⟨S, 0, none⟩)) (by rfl) rfl ?_ ?_
        · go_simp
          (try simp only [i64_w])
          try rfl
        refine hK.out _ _ ⟨b8, m10_, (by rw [ha.out]; exact putSel_upk 0 hb_ rfl rfl rfl), Q_M, Q_LB, Q_Xb7, Q_Z, fun h0_ => absurd ((hoff 11 (by kernel_rfl)).symm.trans h0_) (by decide), Q_F, Q_E, Q_Db7, Q_X10_⟩
      refine steps_cons ?_ ?_
      · as_aux_lemma =>
        rintro b a w' ⟨b8, m10_, ha, Q_M, Q_LB, Q_Xb7, Q_Z, Q_Y, Q_F, Q_E, Q_Db7, Q_X10_⟩ hb_ hon hoff
        refine ⟨_, rfl, fun K hK => ?_⟩
        have e72 : a.tmps[72]? = some (.pointer (some ⟨b7, 0, none⟩)) := by rw [ha]; exact (putSel_off rfl).trans rfl
        replace ha := Aside0.mk ha
        have M := Aside0.mk Q_M
        have LB := Aside0.mk Q_LB
        have Xb7 := Aside0.mk Q_Xb7
        have hb : w'.cell? ⟨b7, 0, none⟩ = some (.int .i64 (x)) := (blk_cell Xb7.out 0).trans rfl
        refine value_ (w1 := w') (v := .int .i64 (x)) (by rfl) rfl ?_ ?_
        · go_simp
          (try simp only [i64_w])
          try rfl
        refine hK.out _ _ ⟨b8, m10_, (by rw [ha.out]; exact putSel_upk 1 hb_ rfl rfl rfl), Q_M, Q_LB, Q_Xb7, Q_Z, fun h0_ => absurd ((hoff 11 (by kernel_rfl)).symm.trans h0_) (by decide), Q_F, Q_E, Q_Db7, Q_X10_⟩
      refine steps_cons ?_ ?_
      · as_aux_lemma =>
        rintro b a w' ⟨b8, m10_, ha, Q_M, Q_LB, Q_Xb7, Q_Z, Q_Y, Q_F, Q_E, Q_Db7, Q_X10_⟩ hb_ hon hoff
        refine ⟨_, rfl, fun K hK => ?_⟩
        have e71 : a.tmps[71]? = some (.pointer (some ⟨S, 0, none⟩)) := by rw [ha]; exact putSel_on (e := (3, 71, .pointer (some ⟨S, 0, none⟩))) 0 rfl rfl (hon 3 (by kernel_rfl)) rfl
        have e73 : a.tmps[73]? = some (.int .i64 (x)) := by rw [ha]; exact putSel_on (e := (5, 73, .int .i64 (x))) 1 rfl rfl (hon 5 (by kernel_rfl)) rfl
        replace ha := Aside0.mk ha
        have M := Aside0.mk Q_M
        have LB := Aside0.mk Q_LB
        have Xb7 := Aside0.mk Q_Xb7
        refine goes_ Try.func17 (by kernel_rfl) rfl #[.pointer (some ⟨S, 0, none⟩), .int .i64 (x)] (by rfl) rfl rfl (by first | (simp only [List.map_toArray, List.map_cons, List.map_nil, Act.eval, Array.getD_eq_getD_getElem?, Option.getD_some, e71, e73]; done) | (simp only [List.map_toArray, List.map_cons, List.map_nil, Act.eval, Array.getD_eq_getD_getElem?, Option.getD_some, e71, e73]; rfl)) ?_
        refine (at_calls ns (x) S m v false w' M.out.p).mono ?_
        rintro e wN ⟨rfl, hb⟩
        refine ⟨_, rfl, ?_⟩
        refine hK.out _ _ ⟨b8, m10_, (by rw [ha.out]; exact putSel_upk 2 hb_ rfl rfl rfl), (M.out.below hb), (fr_low LB.out M.out.size (Fr.of_below hb _)), ((hb.block _ (blk_lt Xb7.out)).trans Xb7.out), fun h0_ h1_ => ((hb.block _ (blk_lt (Q_Z h0_ h1_))).trans (Q_Z h0_ h1_)), fun h0_ => absurd ((hoff 11 (by kernel_rfl)).symm.trans h0_) (by decide), Q_F, Q_E, Q_Db7, Q_X10_⟩
      refine steps_cons ?_ ?_
      · as_aux_lemma =>
        rintro b a w' ⟨b8, m10_, ha, Q_M, Q_LB, Q_Xb7, Q_Z, Q_Y, Q_F, Q_E, Q_Db7, Q_X10_⟩ hb_ hon hoff
        refine ⟨_, rfl, fun K hK => ?_⟩
        have e74 : a.tmps[74]? = some (.tuple #[.agg #[.int .i64 (atN ns (x)).f0, .int .i64 (atN ns (x)).f1, .int .i64 (atN ns (x)).f2], .bool (atB ns (x))]) := by rw [ha]; exact putSel_on (e := (6, 74, .tuple #[.agg #[.int .i64 (atN ns (x)).f0, .int .i64 (atN ns (x)).f1, .int .i64 (atN ns (x)).f2], .bool (atB ns (x))])) 2 rfl rfl (hon 6 (by kernel_rfl)) rfl
        replace ha := Aside0.mk ha
        have M := Aside0.mk Q_M
        have LB := Aside0.mk Q_LB
        have Xb7 := Aside0.mk Q_Xb7
        refine value_ (w1 := w') (v := .tuple #[.agg #[.int .i64 (atN ns (x)).f0, .int .i64 (atN ns (x)).f1, .int .i64 (atN ns (x)).f2], .bool (atB ns (x))]) (by rfl) rfl ?_ ?_
        · go_simp
          (try simp only [i64_w])
          try rfl
        refine hK.out _ _ ⟨b8, m10_, (by rw [ha.out]; exact putSel_upk 3 hb_ rfl rfl rfl), Q_M, Q_LB, Q_Xb7, Q_Z, fun h0_ => absurd ((hoff 11 (by kernel_rfl)).symm.trans h0_) (by decide), Q_F, Q_E, Q_Db7, Q_X10_⟩
      refine steps_cons ?_ ?_
      · as_aux_lemma =>
        rintro b a w' ⟨b8, m10_, ha, Q_M, Q_LB, Q_Xb7, Q_Z, Q_Y, Q_F, Q_E, Q_Db7, Q_X10_⟩ hb_ hon hoff
        refine ⟨_, rfl, fun K hK => ?_⟩
        have e67 : a.tmps[67]? = some (.tuple #[.agg #[.int .i64 (atN ns (x)).f0, .int .i64 (atN ns (x)).f1, .int .i64 (atN ns (x)).f2], .bool (atB ns (x))]) := by rw [ha]; exact putSel_on (e := (7, 67, .tuple #[.agg #[.int .i64 (atN ns (x)).f0, .int .i64 (atN ns (x)).f1, .int .i64 (atN ns (x)).f2], .bool (atB ns (x))])) 3 rfl rfl (hon 7 (by kernel_rfl)) rfl
        replace ha := Aside0.mk ha
        have M := Aside0.mk Q_M
        have LB := Aside0.mk Q_LB
        have Xb7 := Aside0.mk Q_Xb7
        refine value_ (w1 := w') (v := .agg #[.int .i64 (atN ns (x)).f0, .int .i64 (atN ns (x)).f1, .int .i64 (atN ns (x)).f2]) (by rfl) rfl ?_ ?_
        · go_simp
          (try simp only [i64_w])
          try rfl
        refine hK.out _ _ ⟨b8, m10_, (by rw [ha.out]; exact putSel_upk 4 hb_ rfl rfl rfl), Q_M, Q_LB, Q_Xb7, Q_Z, fun h0_ => absurd ((hoff 11 (by kernel_rfl)).symm.trans h0_) (by decide), Q_F, Q_E, Q_Db7, Q_X10_⟩
      refine steps_cons ?_ ?_
      · as_aux_lemma =>
        rintro b a w' ⟨b8, m10_, ha, Q_M, Q_LB, Q_Xb7, Q_Z, Q_Y, Q_F, Q_E, Q_Db7, Q_X10_⟩ hb_ hon hoff
        refine ⟨_, rfl, fun K hK => ?_⟩
        have e67 : a.tmps[67]? = some (.tuple #[.agg #[.int .i64 (atN ns (x)).f0, .int .i64 (atN ns (x)).f1, .int .i64 (atN ns (x)).f2], .bool (atB ns (x))]) := by rw [ha]; exact putSel_on (e := (7, 67, .tuple #[.agg #[.int .i64 (atN ns (x)).f0, .int .i64 (atN ns (x)).f1, .int .i64 (atN ns (x)).f2], .bool (atB ns (x))])) 3 rfl rfl (hon 7 (by kernel_rfl)) rfl
        replace ha := Aside0.mk ha
        have M := Aside0.mk Q_M
        have LB := Aside0.mk Q_LB
        have Xb7 := Aside0.mk Q_Xb7
        refine value_ (w1 := w') (v := .bool (atB ns (x))) (by rfl) rfl ?_ ?_
        · go_simp
          (try simp only [i64_w])
          try rfl
        refine hK.out _ _ ⟨b8, m10_, (by rw [ha.out]; exact putSel_upk 5 hb_ rfl rfl rfl), Q_M, Q_LB, Q_Xb7, Q_Z, Q_Y, Q_F, Q_E, Q_Db7, Q_X10_⟩
      refine steps_cons ?_ ?_
      · as_aux_lemma =>
        rintro b a w' ⟨b8, m10_, ha, Q_M, Q_LB, Q_Xb7, Q_Z, Q_Y, Q_F, Q_E, Q_Db7, Q_X10_⟩ hb_ hon hoff
        refine ⟨_, rfl, fun K hK => ?_⟩
        replace ha := Aside0.mk ha
        have M := Aside0.mk Q_M
        have LB := Aside0.mk Q_LB
        have Xb7 := Aside0.mk Q_Xb7
        refine value_ (w1 := w'.alloc (.cells #[.int .i64 0, .int .i64 0, .int .i64 0] 39)) (v := .pointer (some ⟨w'.heap.size, 0, none⟩)) (by rfl) rfl ?_ ?_
        · first | (go_simp; done) | (go_simp; rfl)
        refine hK.out _ _ ⟨w'.heap.size, (.pointer (some ⟨w'.heap.size, 0, none⟩)), (by rw [ha.out]; exact putSel_upk 6 hb_ rfl rfl rfl), (M.out.below ((Below.refl _ _).alloc (Nat.le_refl _) _)), (LB.out.alloc LB.out.size _), (blk_alloc Xb7.out _), fun _ _ => (by simpa using blk_new w' (.cells #[.int .i64 0, .int .i64 0, .int .i64 0] 39)), fun h0_ => absurd ((hoff 11 (by kernel_rfl)).symm.trans h0_) (by decide), fun _ => (M.out.free (Nat.le_refl _)), fun _ => M.out.size, fun _ => (fun e => by have := blk_lt Xb7.out; omega), fun _ => rfl⟩
      refine steps_cons ?_ ?_
      · as_aux_lemma =>
        rintro b a w' ⟨b8, m10_, ha, Q_M, Q_LB, Q_Xb7, Q_Z, Q_Y, Q_F, Q_E, Q_Db7, Q_X10_⟩ hb_ hon hoff
        refine ⟨_, rfl, fun K hK => ?_⟩
        have e8 : a.tmps[8]? = some (m10_) := by rw [ha]; exact putSel_on (e := (10, 8, m10_)) 6 rfl rfl (hon 10 (by kernel_rfl)) rfl
        rw [Q_X10_ (hon 10 (by kernel_rfl))] at e8
        have e75 : a.tmps[75]? = some (.agg #[.int .i64 (atN ns (x)).f0, .int .i64 (atN ns (x)).f1, .int .i64 (atN ns (x)).f2]) := by rw [ha]; exact putSel_on (e := (8, 75, .agg #[.int .i64 (atN ns (x)).f0, .int .i64 (atN ns (x)).f1, .int .i64 (atN ns (x)).f2])) 4 rfl rfl (hon 8 (by kernel_rfl)) rfl
        replace ha := Aside0.mk ha
        have M := Aside0.mk Q_M
        have LB := Aside0.mk Q_LB
        have Xb7 := Aside0.mk Q_Xb7
        have Z := Aside0.mk (Q_Z (hon 10 (by kernel_rfl)) hb_)
        have F := Aside0.mk (Q_F (hon 10 (by kernel_rfl)))
        have E := Aside0.mk (Q_E (hon 10 (by kernel_rfl)))
        have Db7 := Aside0.mk (Q_Db7 (hon 10 (by kernel_rfl)))
        have hs0 : w'.cell? ⟨b8, 0, none⟩ = some (.int .i64 0) := (blk_cell Z.out 0).trans rfl
        have hs1 : w'.cell? ⟨b8, 1, none⟩ = some (.int .i64 0) := (blk_cell Z.out 1).trans rfl
        have hs2 : w'.cell? ⟨b8, 2, none⟩ = some (.int .i64 0) := (blk_cell Z.out 2).trans rfl
        have hf0 := blk_frozen Z.out 0
        have hf1 := blk_frozen Z.out 1
        have hf2 := blk_frozen Z.out 2
        refine skip_ (w1 := (((w'.setCell ⟨b8, 0, none⟩ (.int .i64 (atN ns (x)).f0)).setCell ⟨b8, 1, none⟩ (.int .i64 (atN ns (x)).f1)).setCell ⟨b8, 2, none⟩ (.int .i64 (atN ns (x)).f2))) (by rfl) rfl ?_ ?_
        · first | (go_simp; done) | (go_simp; rfl)
        have hfr : Fr w' (((w'.setCell ⟨b8, 0, none⟩ (.int .i64 (atN ns (x)).f0)).setCell ⟨b8, 1, none⟩ (.int .i64 (atN ns (x)).f1)).setCell ⟨b8, 2, none⟩ (.int .i64 (atN ns (x)).f2)) (fun k => k = b8) := (Fr.setCell (Fr.setCell (Fr.setCell (Fr.refl w' (fun k => k = b8)) (p := ⟨b8, 0, none⟩) (.inl rfl) _) (p := ⟨b8, 1, none⟩) (.inl rfl) _) (p := ⟨b8, 2, none⟩) (.inl rfl) _)
        have hy : (((w'.setCell ⟨b8, 0, none⟩ (.int .i64 (atN ns (x)).f0)).setCell ⟨b8, 1, none⟩ (.int .i64 (atN ns (x)).f1)).setCell ⟨b8, 2, none⟩ (.int .i64 (atN ns (x)).f2)).heap[b8]? = some (boxN (atN ns (x))) := blk_put (blk_put (blk_put Z.out 0 _ rfl) 1 _ rfl) 2 _ rfl
        refine hK.out _ _ ⟨b8, m10_, (by rw [ha.out]; exact putSel_none (v := undef) rfl), (M.out.far F.out hfr), (((LB.out.setCell (p := ⟨b8, 0, none⟩) E.out _).setCell (p := ⟨b8, 1, none⟩) E.out _).setCell (p := ⟨b8, 2, none⟩) E.out _), ((hfr.blk b7 (blk_lt Xb7.out) (fun e => Db7.out e.symm)).trans Xb7.out), fun _ h1_ => absurd ((up_self b 11).symm.trans h1_) (by decide), fun _ => hy, Q_F, Q_E, Q_Db7, Q_X10_⟩
      refine steps_cons ?_ ?_
      · as_aux_lemma =>
        rintro b a w' ⟨b8, m10_, ha, Q_M, Q_LB, Q_Xb7, Q_Z, Q_Y, Q_F, Q_E, Q_Db7, Q_X10_⟩ hb_ hon hoff
        refine ⟨_, rfl, fun K hK => ?_⟩
        have e76 : a.tmps[76]? = some (.bool (atB ns (x))) := by rw [ha]; exact putSel_on (e := (9, 76, .bool (atB ns (x)))) 5 rfl rfl (hon 9 (by kernel_rfl)) rfl
        replace ha := Aside0.mk ha
        have M := Aside0.mk Q_M
        have LB := Aside0.mk Q_LB
        have Xb7 := Aside0.mk Q_Xb7
        have Y := Aside0.mk (Q_Y (hon 11 (by kernel_rfl)))
        have F := Aside0.mk (Q_F (hon 10 (by kernel_rfl)))
        have E := Aside0.mk (Q_E (hon 10 (by kernel_rfl)))
        have Db7 := Aside0.mk (Q_Db7 (hon 10 (by kernel_rfl)))
        refine value_ (w1 := w') (v := .bool (atB ns (x))) (by rfl) rfl ?_ ?_
        · go_simp
          (try simp only [i64_w])
          try rfl
        refine hK.out _ _ ⟨b8, m10_, (by rw [ha.out]; exact putSel_upk 7 hb_ rfl rfl rfl), Q_M, Q_LB, Q_Xb7, fun _ h1_ => absurd ((hon 11 (by kernel_rfl)).symm.trans h1_) (by decide), Q_Y, Q_F, Q_E, Q_Db7, Q_X10_⟩
      exact steps_nil
    rintro b a wq1 hall ⟨b8, m10_, ha, Q_M, Q_LB, Q_Xb7, Q_Z, Q_Y, Q_F, Q_E, Q_Db7, Q_X10_⟩
    clear LB M Xb7
    have hb3_ := hall 3 (by kernel_rfl)
    have hb5_ := hall 5 (by kernel_rfl)
    have hb6_ := hall 6 (by kernel_rfl)
    have hb7_ := hall 7 (by kernel_rfl)
    have hb8_ := hall 8 (by kernel_rfl)
    have hb9_ := hall 9 (by kernel_rfl)
    have hb10_ := hall 10 (by kernel_rfl)
    have hb11_ := hall 11 (by kernel_rfl)
    have hb12_ := hall 12 (by kernel_rfl)
    subst ha
    obtain rfl := Q_X10_ hb10_
    simp only [putSel, hb3_, hb5_, hb6_, hb7_, hb8_, hb9_, hb10_, hb11_, hb12_, if_true, Act.put, List.setIfInBounds_toArray, List.set_cons_zero, List.set_cons_succ]
    have M := Aside0.mk Q_M
    clear Q_M
    have LB := Aside0.mk Q_LB
    clear Q_LB
    have Xb7 := Aside0.mk Q_Xb7
    clear Q_Xb7
    clear Q_Z
    have Y := Aside0.mk (Q_Y hb11_)
    clear Q_Y
    have F := Aside0.mk (Q_F hb10_)
    clear Q_F
    have E := Aside0.mk (Q_E hb10_)
    clear Q_E
    have Db7 := Aside0.mk (Q_Db7 hb10_)
    clear Q_Db7
    clear hall hb3_ hb5_ hb6_ hb7_ hb8_ hb9_ hb10_ hb11_ hb12_
    have Xb8 := Y
    have Fb8 := F
    clear Y F E Db7
    have hAB := atB_valid HVX.out
    have q70 : wq1.cell? ⟨b7, 0, none⟩ = some (.int .i64 x) := (blk_cell Xb7.out 0).trans rfl
    generalize hbb : atB ns x = bb at hAB ⊢
    cases bb with
    | false =>
     have h0 : ¬ 0 ≤ x := fun e => by rw [decide_eq_true e] at hAB; cases hAB
     have d0 : decide (0 ≤ x) = false := hAB.symm
     have hN : atN ns x = ⟨0, 0, 0⟩ := if_neg (fun e => h0 e.1)
     rw [hN] at Xb8 ⊢
     have q80 : wq1.cell? ⟨b8, 0, none⟩ = some (.int .i64 0) := (blk_cell Xb8.out 0).trans rfl
     have q81 : wq1.cell? ⟨b8, 1, none⟩ = some (.int .i64 0) := (blk_cell Xb8.out 1).trans rfl
     have q82 : wq1.cell? ⟨b8, 2, none⟩ = some (.int .i64 0) := (blk_cell Xb8.out 2).trans rfl
     clear hAB hbb h0 hN
     go_wp2
     go_roundw
     case measure => simp [intOf]; omega
     case rel => exact ⟨i + 1, rfl, ⟨by omega⟩, ⟨M.out.close⟩, LB⟩
    | true =>
     have h0 : 0 ≤ x := of_decide_eq_true hAB.symm
     have d0 : decide (0 ≤ x) = true := hAB.symm
     have hN : atN ns x = rd_T39 ns x := atN_node HVX.out h0
     rw [hN] at Xb8 ⊢
     have HND := Aside0.mk (node_there HW.out HVX.out h0)
     have HC1 := Aside0.mk (chain_top HW.out HVX.out h0 (.inl rfl))
     have HC2 := Aside0.mk (chain_top HW.out HVX.out h0 (.inr rfl))
     have HNE := Aside0.mk (HW.out.tops h0 HVX.out).2.2.2
     generalize rd_T39 ns x = nd at Xb8 HND HC1 HC2 HNE ⊢
     clear hAB hbb hN
     go_upto_region 15 with fail
     have M := Aside0.mk M.out.drew
     have LB : Aside0 (Below w.heap.size w wq1.drew) := ⟨LB.out.drew⟩
     have Xb7 : Aside0 (wq1.drew.heap[b7]? = some (boxP x)) := ⟨Xb7.out⟩
     have Xb8 : Aside0 (wq1.drew.heap[b8]? = some (boxN nd)) := ⟨Xb8.out⟩
     refine start_ (n := 13) (S := fun w' => True) (ds := []) #[false, false, false, false, false, false, false, false, false, false, false, false, false] (by kernel_rfl) rfl rfl trivial (fun hHeld => ?_)
     refine with_tabW quest.tab15 quest.bits15 (fun HT_ HW_ => ?_)
     generalize wq1.drew = wp2 at M LB Xb7 Xb8 hHeld ⊢
     refine pure_ (i := 0) (N := some 94) (v := ?_) (a' := ?_) #[true, false, false, false, false, false, false, false, false, false, false, false, false] rfl rfl (any_of HT_.out (by kernel_rfl)) (fun _ _ _ h => h) (Or.inl ⟨by rfl, ?_⟩) ?_ ?_
     rotate_left
     · intro w'
       go_simp
       with_reducible rfl
     rotate_left
     · simp only [Act.put, List.setIfInBounds_toArray, List.set_cons_zero, List.set_cons_succ, i64_w, i32_w]
       rfl
     refine pure_ (i := 1) (N := some 95) (v := ?_) (a' := ?_) #[true, true, false, false, false, false, false, false, false, false, false, false, false] rfl rfl (any_of HT_.out (by kernel_rfl)) (fun _ _ _ h => h) (Or.inl ⟨by rfl, ?_⟩) ?_ ?_
     rotate_left
     · intro w'
       go_simp
       with_reducible rfl
     rotate_left
     · simp only [Act.put, List.setIfInBounds_toArray, List.set_cons_zero, List.set_cons_succ, i64_w, i32_w]
       rfl
     refine pure_ (i := 2) (N := some 96) (v := ?_) (a' := ?_) #[true, true, true, false, false, false, false, false, false, false, false, false, false] rfl rfl (any_of HT_.out (by kernel_rfl)) (fun _ _ _ h => h) (Or.inl ⟨by rfl, ?_⟩) ?_ ?_
     rotate_left
     · intro w'
       go_simp
       with_reducible rfl
     rotate_left
     · simp only [Act.put, List.setIfInBounds_toArray, List.set_cons_zero, List.set_cons_succ, i64_w, i32_w]
       rfl
     refine pure_ (i := 4) (N := some 98) (v := ?_) (a' := ?_) #[true, true, true, false, true, false, false, false, false, false, false, false, false] rfl rfl (any_of HT_.out (by kernel_rfl)) (fun _ _ _ h => h) (Or.inl ⟨by rfl, ?_⟩) ?_ ?_
     rotate_left
     · intro w'
       go_simp
       with_reducible rfl
     rotate_left
     · simp only [Act.put, List.setIfInBounds_toArray, List.set_cons_zero, List.set_cons_succ, i64_w, i32_w]
       rfl
     refine inv_at [3, 5, 6, 7, 8, 9, 10, 11, 12] (fun a0_ b a w' => ∃ (b10 : Nat) (m10_ : Value), a = putSel a0_ b [(3, 97, .pointer (some ⟨S, 0, none⟩)), (5, 99, .int .i64 (nd.f1)), (6, 100, .tuple #[.agg #[.int .i64 (atN ns (nd.f1)).f0, .int .i64 (atN ns (nd.f1)).f1, .int .i64 (atN ns (nd.f1)).f2], .bool (atB ns (nd.f1))]), (7, 93, .tuple #[.agg #[.int .i64 (atN ns (nd.f1)).f0, .int .i64 (atN ns (nd.f1)).f1, .int .i64 (atN ns (nd.f1)).f2], .bool (atB ns (nd.f1))]), (8, 101, .agg #[.int .i64 (atN ns (nd.f1)).f0, .int .i64 (atN ns (nd.f1)).f1, .int .i64 (atN ns (nd.f1)).f2]), (9, 102, .bool (atB ns (nd.f1))), (10, 10, m10_), (12, 11, .bool (atB ns (nd.f1)))] ∧ (MkC w.heap.size w' G S S' m v m' v' (some ad) c ns all) ∧ (Below w.heap.size w w') ∧ (w'.heap[b7]? = some (boxP x)) ∧ (w'.heap[b8]? = some (boxN nd)) ∧ (b 10 = true → b 11 = false → w'.heap[b10]? = some (Obj.cells #[.int .i64 0, .int .i64 0, .int .i64 0] 39 (0, 0))) ∧ (b 11 = true → w'.heap[b10]? = some (boxN (atN ns (nd.f1)))) ∧ (b 10 = true → Free G S S' m v m' v' (some ad) all.length c b10) ∧ (b 10 = true → w.heap.size ≤ b10) ∧ (b 10 = true → b10 ≠ b7) ∧ (b 10 = true → b10 ≠ b8) ∧ (b 10 = true → (m10_ : Value) = .pointer (some ⟨b10, 0, none⟩))) HT_.out HW_.out (by kernel_rfl) (by kernel_rfl) ?_ ?_ ?_
     · exact ⟨0, .bool false, by simp only [putSel, Bool.false_eq_true, if_false], M.out, LB.out, Xb7.out, Xb8.out, fun h_ => absurd h_ (by decide), fun h_ => absurd h_ (by decide), fun h_ => absurd h_ (by decide), fun h_ => absurd h_ (by decide), fun h_ => absurd h_ (by decide), fun h_ => absurd h_ (by decide), fun h_ => absurd h_ (by decide)⟩
     · skip
       clear LB M Xb7 Xb8
       refine steps_cons ?_ ?_
       · as_aux_lemma =>
         rintro b a w' ⟨b10, m10_, ha, Q_M, Q_LB, Q_Xb7, Q_Xb8, Q_Z, Q_Y, Q_F, Q_E, Q_Db7, Q_Db8, Q_X10_⟩ hb_ hon hoff
         refine ⟨_, rfl, fun K hK => ?_⟩
         have e96 : a.tmps[96]? = some (.pointer (some ⟨G, 0, none⟩)) := by rw [ha]; exact (putSel_off rfl).trans rfl
         replace ha := Aside0.mk ha
         have M := Aside0.mk Q_M
         have LB := Aside0.mk Q_LB
         have Xb7 := Aside0.mk Q_Xb7
         have Xb8 := Aside0.mk Q_Xb8
         have q0 := M.out.c0
         refine value_ (w1 := w') (v := .pointer (some ⟨S, 0, none⟩)) (by rfl) rfl ?_ ?_
         · go_simp
           (try simp only [i64_w])
           try rfl
         refine hK.out _ _ ⟨b10, m10_, (by rw [ha.out]; exact putSel_upk 0 hb_ rfl rfl rfl), Q_M, Q_LB, Q_Xb7, Q_Xb8, Q_Z, fun h0_ => absurd ((hoff 11 (by kernel_rfl)).symm.trans h0_) (by decide), Q_F, Q_E, Q_Db7, Q_Db8, Q_X10_⟩
       refine steps_cons ?_ ?_
       · as_aux_lemma =>
         rintro b a w' ⟨b10, m10_, ha, Q_M, Q_LB, Q_Xb7, Q_Xb8, Q_Z, Q_Y, Q_F, Q_E, Q_Db7, Q_Db8, Q_X10_⟩ hb_ hon hoff
         refine ⟨_, rfl, fun K hK => ?_⟩
         have e98 : a.tmps[98]? = some (.pointer (some ⟨b8, 1, none⟩)) := by rw [ha]; exact (putSel_off rfl).trans rfl
         replace ha := Aside0.mk ha
         have M := Aside0.mk Q_M
         have LB := Aside0.mk Q_LB
         have Xb7 := Aside0.mk Q_Xb7
         have Xb8 := Aside0.mk Q_Xb8
         have hb : w'.cell? ⟨b8, 1, none⟩ = some (.int .i64 (nd.f1)) := (blk_cell Xb8.out 1).trans rfl
         refine value_ (w1 := w') (v := .int .i64 (nd.f1)) (by rfl) rfl ?_ ?_
         · go_simp
           (try simp only [i64_w])
           try rfl
         refine hK.out _ _ ⟨b10, m10_, (by rw [ha.out]; exact putSel_upk 1 hb_ rfl rfl rfl), Q_M, Q_LB, Q_Xb7, Q_Xb8, Q_Z, fun h0_ => absurd ((hoff 11 (by kernel_rfl)).symm.trans h0_) (by decide), Q_F, Q_E, Q_Db7, Q_Db8, Q_X10_⟩
       refine steps_cons ?_ ?_
       · as_aux_lemma =>
         rintro b a w' ⟨b10, m10_, ha, Q_M, Q_LB, Q_Xb7, Q_Xb8, Q_Z, Q_Y, Q_F, Q_E, Q_Db7, Q_Db8, Q_X10_⟩ hb_ hon hoff
         refine ⟨_, rfl, fun K hK => ?_⟩
         have e97 : a.tmps[97]? = some (.pointer (some ⟨S, 0, none⟩)) := by rw [ha]; exact putSel_on (e := (3, 97, .pointer (some ⟨S, 0, none⟩))) 0 rfl rfl (hon 3 (by kernel_rfl)) rfl
         have e99 : a.tmps[99]? = some (.int .i64 (nd.f1)) := by rw [ha]; exact putSel_on (e := (5, 99, .int .i64 (nd.f1))) 1 rfl rfl (hon 5 (by kernel_rfl)) rfl
         replace ha := Aside0.mk ha
         have M := Aside0.mk Q_M
         have LB := Aside0.mk Q_LB
         have Xb7 := Aside0.mk Q_Xb7
         have Xb8 := Aside0.mk Q_Xb8
         refine goes_ Try.func17 (by kernel_rfl) rfl #[.pointer (some ⟨S, 0, none⟩), .int .i64 (nd.f1)] (by rfl) rfl rfl (by first | (simp only [List.map_toArray, List.map_cons, List.map_nil, Act.eval, Array.getD_eq_getD_getElem?, Option.getD_some, e97, e99]; done) | (simp only [List.map_toArray, List.map_cons, List.map_nil, Act.eval, Array.getD_eq_getD_getElem?, Option.getD_some, e97, e99]; rfl)) ?_
         refine (at_calls ns (nd.f1) S m v false w' M.out.p).mono ?_
         rintro e wN ⟨rfl, hb⟩
         refine ⟨_, rfl, ?_⟩
         refine hK.out _ _ ⟨b10, m10_, (by rw [ha.out]; exact putSel_upk 2 hb_ rfl rfl rfl), (M.out.below hb), (fr_low LB.out M.out.size (Fr.of_below hb _)), ((hb.block _ (blk_lt Xb7.out)).trans Xb7.out), ((hb.block _ (blk_lt Xb8.out)).trans Xb8.out), fun h0_ h1_ => ((hb.block _ (blk_lt (Q_Z h0_ h1_))).trans (Q_Z h0_ h1_)), fun h0_ => absurd ((hoff 11 (by kernel_rfl)).symm.trans h0_) (by decide), Q_F, Q_E, Q_Db7, Q_Db8, Q_X10_⟩
       refine steps_cons ?_ ?_
       · as_aux_lemma =>
         rintro b a w' ⟨b10, m10_, ha, Q_M, Q_LB, Q_Xb7, Q_Xb8, Q_Z, Q_Y, Q_F, Q_E, Q_Db7, Q_Db8, Q_X10_⟩ hb_ hon hoff
         refine ⟨_, rfl, fun K hK => ?_⟩
         have e100 : a.tmps[100]? = some (.tuple #[.agg #[.int .i64 (atN ns (nd.f1)).f0, .int .i64 (atN ns (nd.f1)).f1, .int .i64 (atN ns (nd.f1)).f2], .bool (atB ns (nd.f1))]) := by rw [ha]; exact putSel_on (e := (6, 100, .tuple #[.agg #[.int .i64 (atN ns (nd.f1)).f0, .int .i64 (atN ns (nd.f1)).f1, .int .i64 (atN ns (nd.f1)).f2], .bool (atB ns (nd.f1))])) 2 rfl rfl (hon 6 (by kernel_rfl)) rfl
         replace ha := Aside0.mk ha
         have M := Aside0.mk Q_M
         have LB := Aside0.mk Q_LB
         have Xb7 := Aside0.mk Q_Xb7
         have Xb8 := Aside0.mk Q_Xb8
         refine value_ (w1 := w') (v := .tuple #[.agg #[.int .i64 (atN ns (nd.f1)).f0, .int .i64 (atN ns (nd.f1)).f1, .int .i64 (atN ns (nd.f1)).f2], .bool (atB ns (nd.f1))]) (by rfl) rfl ?_ ?_
         · go_simp
           (try simp only [i64_w])
           try rfl
         refine hK.out _ _ ⟨b10, m10_, (by rw [ha.out]; exact putSel_upk 3 hb_ rfl rfl rfl), Q_M, Q_LB, Q_Xb7, Q_Xb8, Q_Z, fun h0_ => absurd ((hoff 11 (by kernel_rfl)).symm.trans h0_) (by decide), Q_F, Q_E, Q_Db7, Q_Db8, Q_X10_⟩
       refine steps_cons ?_ ?_
       · as_aux_lemma =>
         rintro b a w' ⟨b10, m10_, ha, Q_M, Q_LB, Q_Xb7, Q_Xb8, Q_Z, Q_Y, Q_F, Q_E, Q_Db7, Q_Db8, Q_X10_⟩ hb_ hon hoff
         refine ⟨_, rfl, fun K hK => ?_⟩
         have e93 : a.tmps[93]? = some (.tuple #[.agg #[.int .i64 (atN ns (nd.f1)).f0, .int .i64 (atN ns (nd.f1)).f1, .int .i64 (atN ns (nd.f1)).f2], .bool (atB ns (nd.f1))]) := by rw [ha]; exact putSel_on (e := (7, 93, .tuple #[.agg #[.int .i64 (atN ns (nd.f1)).f0, .int .i64 (atN ns (nd.f1)).f1, .int .i64 (atN ns (nd.f1)).f2], .bool (atB ns (nd.f1))])) 3 rfl rfl (hon 7 (by kernel_rfl)) rfl
         replace ha := Aside0.mk ha
         have M := Aside0.mk Q_M
         have LB := Aside0.mk Q_LB
         have Xb7 := Aside0.mk Q_Xb7
         have Xb8 := Aside0.mk Q_Xb8
         refine value_ (w1 := w') (v := .agg #[.int .i64 (atN ns (nd.f1)).f0, .int .i64 (atN ns (nd.f1)).f1, .int .i64 (atN ns (nd.f1)).f2]) (by rfl) rfl ?_ ?_
         · go_simp
           (try simp only [i64_w])
           try rfl
         refine hK.out _ _ ⟨b10, m10_, (by rw [ha.out]; exact putSel_upk 4 hb_ rfl rfl rfl), Q_M, Q_LB, Q_Xb7, Q_Xb8, Q_Z, fun h0_ => absurd ((hoff 11 (by kernel_rfl)).symm.trans h0_) (by decide), Q_F, Q_E, Q_Db7, Q_Db8, Q_X10_⟩
       refine steps_cons ?_ ?_
       · as_aux_lemma =>
         rintro b a w' ⟨b10, m10_, ha, Q_M, Q_LB, Q_Xb7, Q_Xb8, Q_Z, Q_Y, Q_F, Q_E, Q_Db7, Q_Db8, Q_X10_⟩ hb_ hon hoff
         refine ⟨_, rfl, fun K hK => ?_⟩
         have e93 : a.tmps[93]? = some (.tuple #[.agg #[.int .i64 (atN ns (nd.f1)).f0, .int .i64 (atN ns (nd.f1)).f1, .int .i64 (atN ns (nd.f1)).f2], .bool (atB ns (nd.f1))]) := by rw [ha]; exact putSel_on (e := (7, 93, .tuple #[.agg #[.int .i64 (atN ns (nd.f1)).f0, .int .i64 (atN ns (nd.f1)).f1, .int .i64 (atN ns (nd.f1)).f2], .bool (atB ns (nd.f1))])) 3 rfl rfl (hon 7 (by kernel_rfl)) rfl
         replace ha := Aside0.mk ha
         have M := Aside0.mk Q_M
         have LB := Aside0.mk Q_LB
         have Xb7 := Aside0.mk Q_Xb7
         have Xb8 := Aside0.mk Q_Xb8
         refine value_ (w1 := w') (v := .bool (atB ns (nd.f1))) (by rfl) rfl ?_ ?_
         · go_simp
           (try simp only [i64_w])
           try rfl
         refine hK.out _ _ ⟨b10, m10_, (by rw [ha.out]; exact putSel_upk 5 hb_ rfl rfl rfl), Q_M, Q_LB, Q_Xb7, Q_Xb8, Q_Z, Q_Y, Q_F, Q_E, Q_Db7, Q_Db8, Q_X10_⟩
       refine steps_cons ?_ ?_
       · as_aux_lemma =>
         rintro b a w' ⟨b10, m10_, ha, Q_M, Q_LB, Q_Xb7, Q_Xb8, Q_Z, Q_Y, Q_F, Q_E, Q_Db7, Q_Db8, Q_X10_⟩ hb_ hon hoff
         refine ⟨_, rfl, fun K hK => ?_⟩
         replace ha := Aside0.mk ha
         have M := Aside0.mk Q_M
         have LB := Aside0.mk Q_LB
         have Xb7 := Aside0.mk Q_Xb7
         have Xb8 := Aside0.mk Q_Xb8
         refine value_ (w1 := w'.alloc (.cells #[.int .i64 0, .int .i64 0, .int .i64 0] 39)) (v := .pointer (some ⟨w'.heap.size, 0, none⟩)) (by rfl) rfl ?_ ?_
         · first | (go_simp; done) | (go_simp; rfl)
         refine hK.out _ _ ⟨w'.heap.size, (.pointer (some ⟨w'.heap.size, 0, none⟩)), (by rw [ha.out]; exact putSel_upk 6 hb_ rfl rfl rfl), (M.out.below ((Below.refl _ _).alloc (Nat.le_refl _) _)), (LB.out.alloc LB.out.size _), (blk_alloc Xb7.out _), (blk_alloc Xb8.out _), fun _ _ => (by simpa using blk_new w' (.cells #[.int .i64 0, .int .i64 0, .int .i64 0] 39)), fun h0_ => absurd ((hoff 11 (by kernel_rfl)).symm.trans h0_) (by decide), fun _ => (M.out.free (Nat.le_refl _)), fun _ => M.out.size, fun _ => (fun e => by have := blk_lt Xb7.out; omega), fun _ => (fun e => by have := blk_lt Xb8.out; omega), fun _ => rfl⟩
       refine steps_cons ?_ ?_
       · as_aux_lemma =>
         rintro b a w' ⟨b10, m10_, ha, Q_M, Q_LB, Q_Xb7, Q_Xb8, Q_Z, Q_Y, Q_F, Q_E, Q_Db7, Q_Db8, Q_X10_⟩ hb_ hon hoff
         refine ⟨_, rfl, fun K hK => ?_⟩
         have e10 : a.tmps[10]? = some (m10_) := by rw [ha]; exact putSel_on (e := (10, 10, m10_)) 6 rfl rfl (hon 10 (by kernel_rfl)) rfl
         rw [Q_X10_ (hon 10 (by kernel_rfl))] at e10
         have e101 : a.tmps[101]? = some (.agg #[.int .i64 (atN ns (nd.f1)).f0, .int .i64 (atN ns (nd.f1)).f1, .int .i64 (atN ns (nd.f1)).f2]) := by rw [ha]; exact putSel_on (e := (8, 101, .agg #[.int .i64 (atN ns (nd.f1)).f0, .int .i64 (atN ns (nd.f1)).f1, .int .i64 (atN ns (nd.f1)).f2])) 4 rfl rfl (hon 8 (by kernel_rfl)) rfl
         replace ha := Aside0.mk ha
         have M := Aside0.mk Q_M
         have LB := Aside0.mk Q_LB
         have Xb7 := Aside0.mk Q_Xb7
         have Xb8 := Aside0.mk Q_Xb8
         have Z := Aside0.mk (Q_Z (hon 10 (by kernel_rfl)) hb_)
         have F := Aside0.mk (Q_F (hon 10 (by kernel_rfl)))
         have E := Aside0.mk (Q_E (hon 10 (by kernel_rfl)))
         have Db7 := Aside0.mk (Q_Db7 (hon 10 (by kernel_rfl)))
         have Db8 := Aside0.mk (Q_Db8 (hon 10 (by kernel_rfl)))
         have hs0 : w'.cell? ⟨b10, 0, none⟩ = some (.int .i64 0) := (blk_cell Z.out 0).trans rfl
         have hs1 : w'.cell? ⟨b10, 1, none⟩ = some (.int .i64 0) := (blk_cell Z.out 1).trans rfl
         have hs2 : w'.cell? ⟨b10, 2, none⟩ = some (.int .i64 0) := (blk_cell Z.out 2).trans rfl
         have hf0 := blk_frozen Z.out 0
         have hf1 := blk_frozen Z.out 1
         have hf2 := blk_frozen Z.out 2
         refine skip_ (w1 := (((w'.setCell ⟨b10, 0, none⟩ (.int .i64 (atN ns (nd.f1)).f0)).setCell ⟨b10, 1, none⟩ (.int .i64 (atN ns (nd.f1)).f1)).setCell ⟨b10, 2, none⟩ (.int .i64 (atN ns (nd.f1)).f2))) (by rfl) rfl ?_ ?_
         · first | (go_simp; done) | (go_simp; rfl)
         have hfr : Fr w' (((w'.setCell ⟨b10, 0, none⟩ (.int .i64 (atN ns (nd.f1)).f0)).setCell ⟨b10, 1, none⟩ (.int .i64 (atN ns (nd.f1)).f1)).setCell ⟨b10, 2, none⟩ (.int .i64 (atN ns (nd.f1)).f2)) (fun k => k = b10) := (Fr.setCell (Fr.setCell (Fr.setCell (Fr.refl w' (fun k => k = b10)) (p := ⟨b10, 0, none⟩) (.inl rfl) _) (p := ⟨b10, 1, none⟩) (.inl rfl) _) (p := ⟨b10, 2, none⟩) (.inl rfl) _)
         have hy : (((w'.setCell ⟨b10, 0, none⟩ (.int .i64 (atN ns (nd.f1)).f0)).setCell ⟨b10, 1, none⟩ (.int .i64 (atN ns (nd.f1)).f1)).setCell ⟨b10, 2, none⟩ (.int .i64 (atN ns (nd.f1)).f2)).heap[b10]? = some (boxN (atN ns (nd.f1))) := blk_put (blk_put (blk_put Z.out 0 _ rfl) 1 _ rfl) 2 _ rfl
         refine hK.out _ _ ⟨b10, m10_, (by rw [ha.out]; exact putSel_none (v := undef) rfl), (M.out.far F.out hfr), (((LB.out.setCell (p := ⟨b10, 0, none⟩) E.out _).setCell (p := ⟨b10, 1, none⟩) E.out _).setCell (p := ⟨b10, 2, none⟩) E.out _), ((hfr.blk b7 (blk_lt Xb7.out) (fun e => Db7.out e.symm)).trans Xb7.out), ((hfr.blk b8 (blk_lt Xb8.out) (fun e => Db8.out e.symm)).trans Xb8.out), fun _ h1_ => absurd ((up_self b 11).symm.trans h1_) (by decide), fun _ => hy, Q_F, Q_E, Q_Db7, Q_Db8, Q_X10_⟩
       refine steps_cons ?_ ?_
       · as_aux_lemma =>
         rintro b a w' ⟨b10, m10_, ha, Q_M, Q_LB, Q_Xb7, Q_Xb8, Q_Z, Q_Y, Q_F, Q_E, Q_Db7, Q_Db8, Q_X10_⟩ hb_ hon hoff
         refine ⟨_, rfl, fun K hK => ?_⟩
         have e102 : a.tmps[102]? = some (.bool (atB ns (nd.f1))) := by rw [ha]; exact putSel_on (e := (9, 102, .bool (atB ns (nd.f1)))) 5 rfl rfl (hon 9 (by kernel_rfl)) rfl
         replace ha := Aside0.mk ha
         have M := Aside0.mk Q_M
         have LB := Aside0.mk Q_LB
         have Xb7 := Aside0.mk Q_Xb7
         have Xb8 := Aside0.mk Q_Xb8
         have Y := Aside0.mk (Q_Y (hon 11 (by kernel_rfl)))
         have F := Aside0.mk (Q_F (hon 10 (by kernel_rfl)))
         have E := Aside0.mk (Q_E (hon 10 (by kernel_rfl)))
         have Db7 := Aside0.mk (Q_Db7 (hon 10 (by kernel_rfl)))
         have Db8 := Aside0.mk (Q_Db8 (hon 10 (by kernel_rfl)))
         refine value_ (w1 := w') (v := .bool (atB ns (nd.f1))) (by rfl) rfl ?_ ?_
         · go_simp
           (try simp only [i64_w])
           try rfl
         refine hK.out _ _ ⟨b10, m10_, (by rw [ha.out]; exact putSel_upk 7 hb_ rfl rfl rfl), Q_M, Q_LB, Q_Xb7, Q_Xb8, fun _ h1_ => absurd ((hon 11 (by kernel_rfl)).symm.trans h1_) (by decide), Q_Y, Q_F, Q_E, Q_Db7, Q_Db8, Q_X10_⟩
       exact steps_nil
     rintro b a wq2 hall ⟨b10, m10_, ha, Q_M, Q_LB, Q_Xb7, Q_Xb8, Q_Z, Q_Y, Q_F, Q_E, Q_Db7, Q_Db8, Q_X10_⟩
     clear LB M Xb7 Xb8
     have hb3_ := hall 3 (by kernel_rfl)
     have hb5_ := hall 5 (by kernel_rfl)
     have hb6_ := hall 6 (by kernel_rfl)
     have hb7_ := hall 7 (by kernel_rfl)
     have hb8_ := hall 8 (by kernel_rfl)
     have hb9_ := hall 9 (by kernel_rfl)
     have hb10_ := hall 10 (by kernel_rfl)
     have hb11_ := hall 11 (by kernel_rfl)
     have hb12_ := hall 12 (by kernel_rfl)
     subst ha
     obtain rfl := Q_X10_ hb10_
     simp only [putSel, hb3_, hb5_, hb6_, hb7_, hb8_, hb9_, hb10_, hb11_, hb12_, if_true, Act.put, List.setIfInBounds_toArray, List.set_cons_zero, List.set_cons_succ]
     have M := Aside0.mk Q_M
     clear Q_M
     have LB := Aside0.mk Q_LB
     clear Q_LB
     have Xb7 := Aside0.mk Q_Xb7
     clear Q_Xb7
     have Xb8 := Aside0.mk Q_Xb8
     clear Q_Xb8
     clear Q_Z
     have Y := Aside0.mk (Q_Y hb11_)
     clear Q_Y
     have F := Aside0.mk (Q_F hb10_)
     clear Q_F
     have E := Aside0.mk (Q_E hb10_)
     clear Q_E
     have Db7 := Aside0.mk (Q_Db7 hb10_)
     clear Q_Db7
     have Db8 := Aside0.mk (Q_Db8 hb10_)
     clear Q_Db8
     clear hall hb3_ hb5_ hb6_ hb7_ hb8_ hb9_ hb10_ hb11_ hb12_
     have Xb10 := Y
     have Fb10 := F
     clear Y F E Db7 Db8
     go_upto_region 16 with fail
     have M := Aside0.mk M.out.drew
     have LB : Aside0 (Below w.heap.size w wq2.drew) := ⟨LB.out.drew⟩
     have Xb7 : Aside0 (wq2.drew.heap[b7]? = some (boxP x)) := ⟨Xb7.out⟩
     have Xb8 : Aside0 (wq2.drew.heap[b8]? = some (boxN nd)) := ⟨Xb8.out⟩
     have Xb10 : Aside0 (wq2.drew.heap[b10]? = some (boxN (atN ns nd.f1))) := ⟨Xb10.out⟩
     refine start_ (n := 13) (S := fun w' => True) (ds := []) #[false, false, false, false, false, false, false, false, false, false, false, false, false] (by kernel_rfl) rfl rfl trivial (fun hHeld => ?_)
     refine with_tabW quest.tab16 quest.bits16 (fun HT_ HW_ => ?_)
     generalize wq2.drew = wp3 at M LB Xb7 Xb8 Xb10 hHeld ⊢
     refine pure_ (i := 0) (N := some 104) (v := ?_) (a' := ?_) #[true, false, false, false, false, false, false, false, false, false, false, false, false] rfl rfl (any_of HT_.out (by kernel_rfl)) (fun _ _ _ h => h) (Or.inl ⟨by rfl, ?_⟩) ?_ ?_
     rotate_left
     · intro w'
       go_simp
       with_reducible rfl
     rotate_left
     · simp only [Act.put, List.setIfInBounds_toArray, List.set_cons_zero, List.set_cons_succ, i64_w, i32_w]
       rfl
     refine pure_ (i := 1) (N := some 105) (v := ?_) (a' := ?_) #[true, true, false, false, false, false, false, false, false, false, false, false, false] rfl rfl (any_of HT_.out (by kernel_rfl)) (fun _ _ _ h => h) (Or.inl ⟨by rfl, ?_⟩) ?_ ?_
     rotate_left
     · intro w'
       go_simp
       with_reducible rfl
     rotate_left
     · simp only [Act.put, List.setIfInBounds_toArray, List.set_cons_zero, List.set_cons_succ, i64_w, i32_w]
       rfl
     refine pure_ (i := 2) (N := some 106) (v := ?_) (a' := ?_) #[true, true, true, false, false, false, false, false, false, false, false, false, false] rfl rfl (any_of HT_.out (by kernel_rfl)) (fun _ _ _ h => h) (Or.inl ⟨by rfl, ?_⟩) ?_ ?_
     rotate_left
     · intro w'
       go_simp
       with_reducible rfl
     rotate_left
     · simp only [Act.put, List.setIfInBounds_toArray, List.set_cons_zero, List.set_cons_succ, i64_w, i32_w]
       rfl
     refine pure_ (i := 4) (N := some 108) (v := ?_) (a' := ?_) #[true, true, true, false, true, false, false, false, false, false, false, false, false] rfl rfl (any_of HT_.out (by kernel_rfl)) (fun _ _ _ h => h) (Or.inl ⟨by rfl, ?_⟩) ?_ ?_
     rotate_left
     · intro w'
       go_simp
       with_reducible rfl
     rotate_left
     · simp only [Act.put, List.setIfInBounds_toArray, List.set_cons_zero, List.set_cons_succ, i64_w, i32_w]
       rfl
     refine inv_at [3, 5, 6, 7, 8, 9, 10, 11, 12] (fun a0_ b a w' => ∃ (b12 : Nat) (m10_ : Value), a = putSel a0_ b [(3, 107, .pointer (some ⟨S, 0, none⟩)), (5, 109, .int .i64 (nd.f2)), (6, 110, .tuple #[.agg #[.int .i64 (atN ns (nd.f2)).f0, .int .i64 (atN ns (nd.f2)).f1, .int .i64 (atN ns (nd.f2)).f2], .bool (atB ns (nd.f2))]), (7, 103, .tuple #[.agg #[.int .i64 (atN ns (nd.f2)).f0, .int .i64 (atN ns (nd.f2)).f1, .int .i64 (atN ns (nd.f2)).f2], .bool (atB ns (nd.f2))]), (8, 111, .agg #[.int .i64 (atN ns (nd.f2)).f0, .int .i64 (atN ns (nd.f2)).f1, .int .i64 (atN ns (nd.f2)).f2]), (9, 112, .bool (atB ns (nd.f2))), (10, 12, m10_), (12, 13, .bool (atB ns (nd.f2)))] ∧ (MkC w.heap.size w' G S S' m v m' v' (some ad) c ns all) ∧ (Below w.heap.size w w') ∧ (w'.heap[b7]? = some (boxP x)) ∧ (w'.heap[b8]? = some (boxN nd)) ∧ (w'.heap[b10]? = some (boxN (atN ns nd.f1))) ∧ (b 10 = true → b 11 = false → w'.heap[b12]? = some (Obj.cells #[.int .i64 0, .int .i64 0, .int .i64 0] 39 (0, 0))) ∧ (b 11 = true → w'.heap[b12]? = some (boxN (atN ns (nd.f2)))) ∧ (b 10 = true → Free G S S' m v m' v' (some ad) all.length c b12) ∧ (b 10 = true → w.heap.size ≤ b12) ∧ (b 10 = true → b12 ≠ b7) ∧ (b 10 = true → b12 ≠ b8) ∧ (b 10 = true → b12 ≠ b10) ∧ (b 10 = true → (m10_ : Value) = .pointer (some ⟨b12, 0, none⟩))) HT_.out HW_.out (by kernel_rfl) (by kernel_rfl) ?_ ?_ ?_
     · exact ⟨0, .bool false, by simp only [putSel, Bool.false_eq_true, if_false], M.out, LB.out, Xb7.out, Xb8.out, Xb10.out, fun h_ => absurd h_ (by decide), fun h_ => absurd h_ (by decide), fun h_ => absurd h_ (by decide), fun h_ => absurd h_ (by decide), fun h_ => absurd h_ (by decide), fun h_ => absurd h_ (by decide), fun h_ => absurd h_ (by decide), fun h_ => absurd h_ (by decide)⟩
     · skip
       clear LB M Xb10 Xb7 Xb8
       refine steps_cons ?_ ?_
       · as_aux_lemma =>
         rintro b a w' ⟨b12, m10_, ha, Q_M, Q_LB, Q_Xb7, Q_Xb8, Q_Xb10, Q_Z, Q_Y, Q_F, Q_E, Q_Db7, Q_Db8, Q_Db10, Q_X10_⟩ hb_ hon hoff
         refine ⟨_, rfl, fun K hK => ?_⟩
         have e106 : a.tmps[106]? = some (.pointer (some ⟨G, 0, none⟩)) := by rw [ha]; exact (putSel_off rfl).trans rfl
         replace ha := Aside0.mk ha
         have M := Aside0.mk Q_M
         have LB := Aside0.mk Q_LB
         have Xb7 := Aside0.mk Q_Xb7
         have Xb8 := Aside0.mk Q_Xb8
         have Xb10 := Aside0.mk Q_Xb10
         have q0 := M.out.c0
         refine value_ (w1 := w') (v := .pointer (some ⟨S, 0, none⟩)) (by rfl) rfl ?_ ?_
         · go_simp
           (try simp only [i64_w])
           try rfl
         refine hK.out _ _ ⟨b12, m10_, (by rw [ha.out]; exact putSel_upk 0 hb_ rfl rfl rfl), Q_M, Q_LB, Q_Xb7, Q_Xb8, Q_Xb10, Q_Z, fun h0_ => absurd ((hoff 11 (by kernel_rfl)).symm.trans h0_) (by decide), Q_F, Q_E, Q_Db7, Q_Db8, Q_Db10, Q_X10_⟩
       refine steps_cons ?_ ?_
       · as_aux_lemma =>
         rintro b a w' ⟨b12, m10_, ha, Q_M, Q_LB, Q_Xb7, Q_Xb8, Q_Xb10, Q_Z, Q_Y, Q_F, Q_E, Q_Db7, Q_Db8, Q_Db10, Q_X10_⟩ hb_ hon hoff
         refine ⟨_, rfl, fun K hK => ?_⟩
         have e108 : a.tmps[108]? = some (.pointer (some ⟨b8, 2, none⟩)) := by rw [ha]; exact (putSel_off rfl).trans rfl
         replace ha := Aside0.mk ha
         have M := Aside0.mk Q_M
         have LB := Aside0.mk Q_LB
         have Xb7 := Aside0.mk Q_Xb7
         have Xb8 := Aside0.mk Q_Xb8
         have Xb10 := Aside0.mk Q_Xb10
         have hb : w'.cell? ⟨b8, 2, none⟩ = some (.int .i64 (nd.f2)) := (blk_cell Xb8.out 2).trans rfl
         refine value_ (w1 := w') (v := .int .i64 (nd.f2)) (by rfl) rfl ?_ ?_
         · go_simp
           (try simp only [i64_w])
           try rfl
         refine hK.out _ _ ⟨b12, m10_, (by rw [ha.out]; exact putSel_upk 1 hb_ rfl rfl rfl), Q_M, Q_LB, Q_Xb7, Q_Xb8, Q_Xb10, Q_Z, fun h0_ => absurd ((hoff 11 (by kernel_rfl)).symm.trans h0_) (by decide), Q_F, Q_E, Q_Db7, Q_Db8, Q_Db10, Q_X10_⟩
       refine steps_cons ?_ ?_
       · as_aux_lemma =>
         rintro b a w' ⟨b12, m10_, ha, Q_M, Q_LB, Q_Xb7, Q_Xb8, Q_Xb10, Q_Z, Q_Y, Q_F, Q_E, Q_Db7, Q_Db8, Q_Db10, Q_X10_⟩ hb_ hon hoff
         refine ⟨_, rfl, fun K hK => ?_⟩
         have e107 : a.tmps[107]? = some (.pointer (some ⟨S, 0, none⟩)) := by rw [ha]; exact putSel_on (e := (3, 107, .pointer (some ⟨S, 0, none⟩))) 0 rfl rfl (hon 3 (by kernel_rfl)) rfl
         have e109 : a.tmps[109]? = some (.int .i64 (nd.f2)) := by rw [ha]; exact putSel_on (e := (5, 109, .int .i64 (nd.f2))) 1 rfl rfl (hon 5 (by kernel_rfl)) rfl
         replace ha := Aside0.mk ha
         have M := Aside0.mk Q_M
         have LB := Aside0.mk Q_LB
         have Xb7 := Aside0.mk Q_Xb7
         have Xb8 := Aside0.mk Q_Xb8
         have Xb10 := Aside0.mk Q_Xb10
         refine goes_ Try.func17 (by kernel_rfl) rfl #[.pointer (some ⟨S, 0, none⟩), .int .i64 (nd.f2)] (by rfl) rfl rfl (by first | (simp only [List.map_toArray, List.map_cons, List.map_nil, Act.eval, Array.getD_eq_getD_getElem?, Option.getD_some, e107, e109]; done) | (simp only [List.map_toArray, List.map_cons, List.map_nil, Act.eval, Array.getD_eq_getD_getElem?, Option.getD_some, e107, e109]; rfl)) ?_
         refine (at_calls ns (nd.f2) S m v false w' M.out.p).mono ?_
         rintro e wN ⟨rfl, hb⟩
         refine ⟨_, rfl, ?_⟩
         refine hK.out _ _ ⟨b12, m10_, (by rw [ha.out]; exact putSel_upk 2 hb_ rfl rfl rfl), (M.out.below hb), (fr_low LB.out M.out.size (Fr.of_below hb _)), ((hb.block _ (blk_lt Xb7.out)).trans Xb7.out), ((hb.block _ (blk_lt Xb8.out)).trans Xb8.out), ((hb.block _ (blk_lt Xb10.out)).trans Xb10.out), fun h0_ h1_ => ((hb.block _ (blk_lt (Q_Z h0_ h1_))).trans (Q_Z h0_ h1_)), fun h0_ => absurd ((hoff 11 (by kernel_rfl)).symm.trans h0_) (by decide), Q_F, Q_E, Q_Db7, Q_Db8, Q_Db10, Q_X10_⟩
       refine steps_cons ?_ ?_
       · as_aux_lemma =>
         rintro b a w' ⟨b12, m10_, ha, Q_M, Q_LB, Q_Xb7, Q_Xb8, Q_Xb10, Q_Z, Q_Y, Q_F, Q_E, Q_Db7, Q_Db8, Q_Db10, Q_X10_⟩ hb_ hon hoff
         refine ⟨_, rfl, fun K hK => ?_⟩
         have e110 : a.tmps[110]? = some (.tuple #[.agg #[.int .i64 (atN ns (nd.f2)).f0, .int .i64 (atN ns (nd.f2)).f1, .int .i64 (atN ns (nd.f2)).f2], .bool (atB ns (nd.f2))]) := by rw [ha]; exact putSel_on (e := (6, 110, .tuple #[.agg #[.int .i64 (atN ns (nd.f2)).f0, .int .i64 (atN ns (nd.f2)).f1, .int .i64 (atN ns (nd.f2)).f2], .bool (atB ns (nd.f2))])) 2 rfl rfl (hon 6 (by kernel_rfl)) rfl
         replace ha := Aside0.mk ha
         have M := Aside0.mk Q_M
         have LB := Aside0.mk Q_LB
         have Xb7 := Aside0.mk Q_Xb7
         have Xb8 := Aside0.mk Q_Xb8
         have Xb10 := Aside0.mk Q_Xb10
         refine value_ (w1 := w') (v := .tuple #[.agg #[.int .i64 (atN ns (nd.f2)).f0, .int .i64 (atN ns (nd.f2)).f1, .int .i64 (atN ns (nd.f2)).f2], .bool (atB ns (nd.f2))]) (by rfl) rfl ?_ ?_
         · go_simp
           (try simp only [i64_w])
           try rfl
         refine hK.out _ _ ⟨b12, m10_, (by rw [ha.out]; exact putSel_upk 3 hb_ rfl rfl rfl), Q_M, Q_LB, Q_Xb7, Q_Xb8, Q_Xb10, Q_Z, fun h0_ => absurd ((hoff 11 (by kernel_rfl)).symm.trans h0_) (by decide), Q_F, Q_E, Q_Db7, Q_Db8, Q_Db10, Q_X10_⟩
       refine steps_cons ?_ ?_
       · as_aux_lemma =>
         rintro b a w' ⟨b12, m10_, ha, Q_M, Q_LB, Q_Xb7, Q_Xb8, Q_Xb10, Q_Z, Q_Y, Q_F, Q_E, Q_Db7, Q_Db8, Q_Db10, Q_X10_⟩ hb_ hon hoff
         refine ⟨_, rfl, fun K hK => ?_⟩
         have e103 : a.tmps[103]? = some (.tuple #[.agg #[.int .i64 (atN ns (nd.f2)).f0, .int .i64 (atN ns (nd.f2)).f1, .int .i64 (atN ns (nd.f2)).f2], .bool (atB ns (nd.f2))]) := by rw [ha]; exact putSel_on (e := (7, 103, .tuple #[.agg #[.int .i64 (atN ns (nd.f2)).f0, .int .i64 (atN ns (nd.f2)).f1, .int .i64 (atN ns (nd.f2)).f2], .bool (atB ns (nd.f2))])) 3 rfl rfl (hon 7 (by kernel_rfl)) rfl
         replace ha := Aside0.mk ha
         have M := Aside0.mk Q_M
         have LB := Aside0.mk Q_LB
         have Xb7 := Aside0.mk Q_Xb7
         have Xb8 := Aside0.mk Q_Xb8
         have Xb10 := Aside0.mk Q_Xb10
         refine value_ (w1 := w') (v := .agg #[.int .i64 (atN ns (nd.f2)).f0, .int .i64 (atN ns (nd.f2)).f1, .int .i64 (atN ns (nd.f2)).f2]) (by rfl) rfl ?_ ?_
         · go_simp
           (try simp only [i64_w])
           try rfl
         refine hK.out _ _ ⟨b12, m10_, (by rw [ha.out]; exact putSel_upk 4 hb_ rfl rfl rfl), Q_M, Q_LB, Q_Xb7, Q_Xb8, Q_Xb10, Q_Z, fun h0_ => absurd ((hoff 11 (by kernel_rfl)).symm.trans h0_) (by decide), Q_F, Q_E, Q_Db7, Q_Db8, Q_Db10, Q_X10_⟩
       refine steps_cons ?_ ?_
       · as_aux_lemma =>
         rintro b a w' ⟨b12, m10_, ha, Q_M, Q_LB, Q_Xb7, Q_Xb8, Q_Xb10, Q_Z, Q_Y, Q_F, Q_E, Q_Db7, Q_Db8, Q_Db10, Q_X10_⟩ hb_ hon hoff
         refine ⟨_, rfl, fun K hK => ?_⟩
         have e103 : a.tmps[103]? = some (.tuple #[.agg #[.int .i64 (atN ns (nd.f2)).f0, .int .i64 (atN ns (nd.f2)).f1, .int .i64 (atN ns (nd.f2)).f2], .bool (atB ns (nd.f2))]) := by rw [ha]; exact putSel_on (e := (7, 103, .tuple #[.agg #[.int .i64 (atN ns (nd.f2)).f0, .int .i64 (atN ns (nd.f2)).f1, .int .i64 (atN ns (nd.f2)).f2], .bool (atB ns (nd.f2))])) 3 rfl rfl (hon 7 (by kernel_rfl)) rfl
         replace ha := Aside0.mk ha
         have M := Aside0.mk Q_M
         have LB := Aside0.mk Q_LB
         have Xb7 := Aside0.mk Q_Xb7
         have Xb8 := Aside0.mk Q_Xb8
         have Xb10 := Aside0.mk Q_Xb10
         refine value_ (w1 := w') (v := .bool (atB ns (nd.f2))) (by rfl) rfl ?_ ?_
         · go_simp
           (try simp only [i64_w])
           try rfl
         refine hK.out _ _ ⟨b12, m10_, (by rw [ha.out]; exact putSel_upk 5 hb_ rfl rfl rfl), Q_M, Q_LB, Q_Xb7, Q_Xb8, Q_Xb10, Q_Z, Q_Y, Q_F, Q_E, Q_Db7, Q_Db8, Q_Db10, Q_X10_⟩
       refine steps_cons ?_ ?_
       · as_aux_lemma =>
         rintro b a w' ⟨b12, m10_, ha, Q_M, Q_LB, Q_Xb7, Q_Xb8, Q_Xb10, Q_Z, Q_Y, Q_F, Q_E, Q_Db7, Q_Db8, Q_Db10, Q_X10_⟩ hb_ hon hoff
         refine ⟨_, rfl, fun K hK => ?_⟩
         replace ha := Aside0.mk ha
         have M := Aside0.mk Q_M
         have LB := Aside0.mk Q_LB
         have Xb7 := Aside0.mk Q_Xb7
         have Xb8 := Aside0.mk Q_Xb8
         have Xb10 := Aside0.mk Q_Xb10
         refine value_ (w1 := w'.alloc (.cells #[.int .i64 0, .int .i64 0, .int .i64 0] 39)) (v := .pointer (some ⟨w'.heap.size, 0, none⟩)) (by rfl) rfl ?_ ?_
         · first | (go_simp; done) | (go_simp; rfl)
         refine hK.out _ _ ⟨w'.heap.size, (.pointer (some ⟨w'.heap.size, 0, none⟩)), (by rw [ha.out]; exact putSel_upk 6 hb_ rfl rfl rfl), (M.out.below ((Below.refl _ _).alloc (Nat.le_refl _) _)), (LB.out.alloc LB.out.size _), (blk_alloc Xb7.out _), (blk_alloc Xb8.out _), (blk_alloc Xb10.out _), fun _ _ => (by simpa using blk_new w' (.cells #[.int .i64 0, .int .i64 0, .int .i64 0] 39)), fun h0_ => absurd ((hoff 11 (by kernel_rfl)).symm.trans h0_) (by decide), fun _ => (M.out.free (Nat.le_refl _)), fun _ => M.out.size, fun _ => (fun e => by have := blk_lt Xb7.out; omega), fun _ => (fun e => by have := blk_lt Xb8.out; omega), fun _ => (fun e => by have := blk_lt Xb10.out; omega), fun _ => rfl⟩
       refine steps_cons ?_ ?_
       · as_aux_lemma =>
         rintro b a w' ⟨b12, m10_, ha, Q_M, Q_LB, Q_Xb7, Q_Xb8, Q_Xb10, Q_Z, Q_Y, Q_F, Q_E, Q_Db7, Q_Db8, Q_Db10, Q_X10_⟩ hb_ hon hoff
         refine ⟨_, rfl, fun K hK => ?_⟩
         have e12 : a.tmps[12]? = some (m10_) := by rw [ha]; exact putSel_on (e := (10, 12, m10_)) 6 rfl rfl (hon 10 (by kernel_rfl)) rfl
         rw [Q_X10_ (hon 10 (by kernel_rfl))] at e12
         have e111 : a.tmps[111]? = some (.agg #[.int .i64 (atN ns (nd.f2)).f0, .int .i64 (atN ns (nd.f2)).f1, .int .i64 (atN ns (nd.f2)).f2]) := by rw [ha]; exact putSel_on (e := (8, 111, .agg #[.int .i64 (atN ns (nd.f2)).f0, .int .i64 (atN ns (nd.f2)).f1, .int .i64 (atN ns (nd.f2)).f2])) 4 rfl rfl (hon 8 (by kernel_rfl)) rfl
         replace ha := Aside0.mk ha
         have M := Aside0.mk Q_M
         have LB := Aside0.mk Q_LB
         have Xb7 := Aside0.mk Q_Xb7
         have Xb8 := Aside0.mk Q_Xb8
         have Xb10 := Aside0.mk Q_Xb10
         have Z := Aside0.mk (Q_Z (hon 10 (by kernel_rfl)) hb_)
         have F := Aside0.mk (Q_F (hon 10 (by kernel_rfl)))
         have E := Aside0.mk (Q_E (hon 10 (by kernel_rfl)))
         have Db7 := Aside0.mk (Q_Db7 (hon 10 (by kernel_rfl)))
         have Db8 := Aside0.mk (Q_Db8 (hon 10 (by kernel_rfl)))
         have Db10 := Aside0.mk (Q_Db10 (hon 10 (by kernel_rfl)))
         have hs0 : w'.cell? ⟨b12, 0, none⟩ = some (.int .i64 0) := (blk_cell Z.out 0).trans rfl
         have hs1 : w'.cell? ⟨b12, 1, none⟩ = some (.int .i64 0) := (blk_cell Z.out 1).trans rfl
         have hs2 : w'.cell? ⟨b12, 2, none⟩ = some (.int .i64 0) := (blk_cell Z.out 2).trans rfl
         have hf0 := blk_frozen Z.out 0
         have hf1 := blk_frozen Z.out 1
         have hf2 := blk_frozen Z.out 2
         refine skip_ (w1 := (((w'.setCell ⟨b12, 0, none⟩ (.int .i64 (atN ns (nd.f2)).f0)).setCell ⟨b12, 1, none⟩ (.int .i64 (atN ns (nd.f2)).f1)).setCell ⟨b12, 2, none⟩ (.int .i64 (atN ns (nd.f2)).f2))) (by rfl) rfl ?_ ?_
         · first | (go_simp; done) | (go_simp; rfl)
         have hfr : Fr w' (((w'.setCell ⟨b12, 0, none⟩ (.int .i64 (atN ns (nd.f2)).f0)).setCell ⟨b12, 1, none⟩ (.int .i64 (atN ns (nd.f2)).f1)).setCell ⟨b12, 2, none⟩ (.int .i64 (atN ns (nd.f2)).f2)) (fun k => k = b12) := (Fr.setCell (Fr.setCell (Fr.setCell (Fr.refl w' (fun k => k = b12)) (p := ⟨b12, 0, none⟩) (.inl rfl) _) (p := ⟨b12, 1, none⟩) (.inl rfl) _) (p := ⟨b12, 2, none⟩) (.inl rfl) _)
         have hy : (((w'.setCell ⟨b12, 0, none⟩ (.int .i64 (atN ns (nd.f2)).f0)).setCell ⟨b12, 1, none⟩ (.int .i64 (atN ns (nd.f2)).f1)).setCell ⟨b12, 2, none⟩ (.int .i64 (atN ns (nd.f2)).f2)).heap[b12]? = some (boxN (atN ns (nd.f2))) := blk_put (blk_put (blk_put Z.out 0 _ rfl) 1 _ rfl) 2 _ rfl
         refine hK.out _ _ ⟨b12, m10_, (by rw [ha.out]; exact putSel_none (v := undef) rfl), (M.out.far F.out hfr), (((LB.out.setCell (p := ⟨b12, 0, none⟩) E.out _).setCell (p := ⟨b12, 1, none⟩) E.out _).setCell (p := ⟨b12, 2, none⟩) E.out _), ((hfr.blk b7 (blk_lt Xb7.out) (fun e => Db7.out e.symm)).trans Xb7.out), ((hfr.blk b8 (blk_lt Xb8.out) (fun e => Db8.out e.symm)).trans Xb8.out), ((hfr.blk b10 (blk_lt Xb10.out) (fun e => Db10.out e.symm)).trans Xb10.out), fun _ h1_ => absurd ((up_self b 11).symm.trans h1_) (by decide), fun _ => hy, Q_F, Q_E, Q_Db7, Q_Db8, Q_Db10, Q_X10_⟩
       refine steps_cons ?_ ?_
       · as_aux_lemma =>
         rintro b a w' ⟨b12, m10_, ha, Q_M, Q_LB, Q_Xb7, Q_Xb8, Q_Xb10, Q_Z, Q_Y, Q_F, Q_E, Q_Db7, Q_Db8, Q_Db10, Q_X10_⟩ hb_ hon hoff
         refine ⟨_, rfl, fun K hK => ?_⟩
         have e112 : a.tmps[112]? = some (.bool (atB ns (nd.f2))) := by rw [ha]; exact putSel_on (e := (9, 112, .bool (atB ns (nd.f2)))) 5 rfl rfl (hon 9 (by kernel_rfl)) rfl
         replace ha := Aside0.mk ha
         have M := Aside0.mk Q_M
         have LB := Aside0.mk Q_LB
         have Xb7 := Aside0.mk Q_Xb7
         have Xb8 := Aside0.mk Q_Xb8
         have Xb10 := Aside0.mk Q_Xb10
         have Y := Aside0.mk (Q_Y (hon 11 (by kernel_rfl)))
         have F := Aside0.mk (Q_F (hon 10 (by kernel_rfl)))
         have E := Aside0.mk (Q_E (hon 10 (by kernel_rfl)))
         have Db7 := Aside0.mk (Q_Db7 (hon 10 (by kernel_rfl)))
         have Db8 := Aside0.mk (Q_Db8 (hon 10 (by kernel_rfl)))
         have Db10 := Aside0.mk (Q_Db10 (hon 10 (by kernel_rfl)))
         refine value_ (w1 := w') (v := .bool (atB ns (nd.f2))) (by rfl) rfl ?_ ?_
         · go_simp
           (try simp only [i64_w])
           try rfl
         refine hK.out _ _ ⟨b12, m10_, (by rw [ha.out]; exact putSel_upk 7 hb_ rfl rfl rfl), Q_M, Q_LB, Q_Xb7, Q_Xb8, Q_Xb10, fun _ h1_ => absurd ((hon 11 (by kernel_rfl)).symm.trans h1_) (by decide), Q_Y, Q_F, Q_E, Q_Db7, Q_Db8, Q_Db10, Q_X10_⟩
       exact steps_nil
     rintro b a wq3 hall ⟨b12, m10_, ha, Q_M, Q_LB, Q_Xb7, Q_Xb8, Q_Xb10, Q_Z, Q_Y, Q_F, Q_E, Q_Db7, Q_Db8, Q_Db10, Q_X10_⟩
     clear LB M Xb10 Xb7 Xb8
     have hb3_ := hall 3 (by kernel_rfl)
     have hb5_ := hall 5 (by kernel_rfl)
     have hb6_ := hall 6 (by kernel_rfl)
     have hb7_ := hall 7 (by kernel_rfl)
     have hb8_ := hall 8 (by kernel_rfl)
     have hb9_ := hall 9 (by kernel_rfl)
     have hb10_ := hall 10 (by kernel_rfl)
     have hb11_ := hall 11 (by kernel_rfl)
     have hb12_ := hall 12 (by kernel_rfl)
     subst ha
     obtain rfl := Q_X10_ hb10_
     simp only [putSel, hb3_, hb5_, hb6_, hb7_, hb8_, hb9_, hb10_, hb11_, hb12_, if_true, Act.put, List.setIfInBounds_toArray, List.set_cons_zero, List.set_cons_succ]
     have M := Aside0.mk Q_M
     clear Q_M
     have LB := Aside0.mk Q_LB
     clear Q_LB
     have Xb7 := Aside0.mk Q_Xb7
     clear Q_Xb7
     have Xb8 := Aside0.mk Q_Xb8
     clear Q_Xb8
     have Xb10 := Aside0.mk Q_Xb10
     clear Q_Xb10
     clear Q_Z
     have Y := Aside0.mk (Q_Y hb11_)
     clear Q_Y
     have F := Aside0.mk (Q_F hb10_)
     clear Q_F
     have E := Aside0.mk (Q_E hb10_)
     clear Q_E
     have Db7 := Aside0.mk (Q_Db7 hb10_)
     clear Q_Db7
     have Db8 := Aside0.mk (Q_Db8 hb10_)
     clear Q_Db8
     have Db10 := Aside0.mk (Q_Db10 hb10_)
     clear Q_Db10
     clear hall hb3_ hb5_ hb6_ hb7_ hb8_ hb9_ hb10_ hb11_ hb12_
     have Xb12 := Y
     have Fb12 := F
     clear Y F E Db7 Db8 Db10
     have dne : (nd.f1 == nd.f2) = false := by have := HNE.out; simpa using this
     have dxx : (x != x) = false := by simp
     have HQ1 : Aside0 (atB ns nd.f1 = true → decide ((atN ns nd.f1).f0 ≤ nd.f0) = false) := ⟨fun e => decide_eq_false (HC1.out e)⟩
     have HQ2 : Aside0 (atB ns nd.f2 = true → decide ((atN ns nd.f2).f0 ≤ nd.f0) = false) := ⟨fun e => decide_eq_false (HC2.out e)⟩
     generalize hyy : atB ns nd.f1 = yb at ⊢
     generalize hzz : atB ns nd.f2 = zb at ⊢
     rw [hyy] at HQ1
     rw [hzz] at HQ2
     clear hyy hzz HC1 HC2 HNE
     go_upto_region 17 with fail
     have M := Aside0.mk M.out.drew
     have LB : Aside0 (Below w.heap.size w wq3.drew) := ⟨LB.out.drew⟩
     have Xb7 : Aside0 (wq3.drew.heap[b7]? = some (boxP x)) := ⟨Xb7.out⟩
     have Xb8 : Aside0 (wq3.drew.heap[b8]? = some (boxN nd)) := ⟨Xb8.out⟩
     have Xb10 : Aside0 (wq3.drew.heap[b10]? = some (boxN (atN ns nd.f1))) := ⟨Xb10.out⟩
     have Xb12 : Aside0 (wq3.drew.heap[b12]? = some (boxN (atN ns nd.f2))) := ⟨Xb12.out⟩
     cases yb with
     | false =>
      have dy := HQ1.out
      cases zb with
      | false =>
       as_aux_lemma =>
       have dz := HQ2.out
       clear dy
       clear dz
       refine start_ (n := 41) (S := fun w' => w'.cell? ⟨G, 0, none⟩ = some (.pointer (some ⟨S, 0, none⟩)) ∧ w'.cell? ⟨b7, 0, none⟩ = some (.int .i64 x) ∧ w'.cell? ⟨b8, 0, none⟩ = some (.int .i64 nd.f0) ∧ w'.cell? ⟨b8, 1, none⟩ = some (.int .i64 nd.f1) ∧ w'.cell? ⟨b8, 2, none⟩ = some (.int .i64 nd.f2) ∧ w'.cell? ⟨b10, 0, none⟩ = some (.int .i64 (atN ns nd.f1).f0) ∧ w'.cell? ⟨b12, 0, none⟩ = some (.int .i64 (atN ns nd.f2).f0)) (ds := []) #[false, false, false, false, false, false, false, false, false, false, false, false, false, false, false, false, false, false, false, false, false, false, false, false, false, false, false, false, false, false, false, false, false, false, false, false, false, false, false, false, false] (by kernel_rfl) rfl rfl ⟨M.out.c0, (blk_cell Xb7.out 0).trans rfl, (blk_cell Xb8.out 0).trans rfl, (blk_cell Xb8.out 1).trans rfl, (blk_cell Xb8.out 2).trans rfl, (blk_cell Xb10.out 0).trans rfl, (blk_cell Xb12.out 0).trans rfl⟩ (fun hHeld => ?_)
       refine with_tabW quest.tab17 quest.bits17 (fun HT_ HW_ => ?_)
       refine pure_ (i := 0) (N := some 113) (v := ?_) (a' := ?_) #[true, false, false, false, false, false, false, false, false, false, false, false, false, false, false, false, false, false, false, false, false, false, false, false, false, false, false, false, false, false, false, false, false, false, false, false, false, false, false, false, false] rfl rfl (any_of HT_.out (by kernel_rfl)) (fun _ _ _ h => h) (Or.inl ⟨by rfl, ?_⟩) ?_ ?_
       rotate_left
       · intro w'
         go_simp
         with_reducible rfl
       rotate_left
       · simp only [Act.put, List.setIfInBounds_toArray, List.set_cons_zero, List.set_cons_succ, i64_w, i32_w]
         rfl
       refine pure_ (i := 2) (N := some 115) (v := ?_) (a' := ?_) #[true, false, true, false, false, false, false, false, false, false, false, false, false, false, false, false, false, false, false, false, false, false, false, false, false, false, false, false, false, false, false, false, false, false, false, false, false, false, false, false, false] rfl rfl (any_of HT_.out (by kernel_rfl)) (fun _ _ _ h => h) (Or.inl ⟨by rfl, ?_⟩) ?_ ?_
       rotate_left
       · intro w'
         go_simp
         with_reducible rfl
       rotate_left
       · simp only [Act.put, List.setIfInBounds_toArray, List.set_cons_zero, List.set_cons_succ, i64_w, i32_w]
         rfl
       refine take_ (i := 1) (N := some 114) (v := ?_) (a' := ?_) #[true, true, true, false, false, false, false, false, false, false, false, false, false, false, false, false, false, false, false, false, false, false, false, false, false, false, false, false, false, false, false, false, false, false, false, false, false, false, false, false, false] rfl rfl (take_ofW HT_.out HW_.out (by kernel_rfl)) (fun _ _ _ h => h) (Or.inl ⟨by rfl, ?_⟩) hHeld ?_ ?_
       rotate_left
       · rintro w' ⟨s0, s1, s2, s3, s4, s5, s6⟩
         go_simp
         with_reducible rfl
       rotate_left
       · simp only [Act.put, List.setIfInBounds_toArray, List.set_cons_zero, List.set_cons_succ, i64_w, i32_w]
         rfl
       refine take_ (i := 3) (N := some 116) (v := ?_) (a' := ?_) #[true, true, true, true, false, false, false, false, false, false, false, false, false, false, false, false, false, false, false, false, false, false, false, false, false, false, false, false, false, false, false, false, false, false, false, false, false, false, false, false, false] rfl rfl (take_ofW HT_.out HW_.out (by kernel_rfl)) (fun _ _ _ h => h) (Or.inl ⟨by rfl, ?_⟩) hHeld ?_ ?_
       rotate_left
       · rintro w' ⟨s0, s1, s2, s3, s4, s5, s6⟩
         go_simp
         with_reducible rfl
       rotate_left
       · simp only [Act.put, List.setIfInBounds_toArray, List.set_cons_zero, List.set_cons_succ, i64_w, i32_w]
         rfl
       refine pure_ (i := 4) (N := some 117) (v := ?_) (a' := ?_) #[true, true, true, true, true, false, false, false, false, false, false, false, false, false, false, false, false, false, false, false, false, false, false, false, false, false, false, false, false, false, false, false, false, false, false, false, false, false, false, false, false] rfl rfl (any_of HT_.out (by kernel_rfl)) (fun _ _ _ h => h) (Or.inl ⟨by rfl, ?_⟩) ?_ ?_
       rotate_left
       · intro w'
         go_simp
         with_reducible rfl
       rotate_left
       · simp only [Act.put, List.setIfInBounds_toArray, List.set_cons_zero, List.set_cons_succ, i64_w, i32_w]
         rfl
       refine pure_ (i := 5) (N := some 118) (v := ?_) (a' := ?_) #[true, true, true, true, true, true, false, false, false, false, false, false, false, false, false, false, false, false, false, false, false, false, false, false, false, false, false, false, false, false, false, false, false, false, false, false, false, false, false, false, false] rfl rfl (any_of HT_.out (by kernel_rfl)) (fun _ _ _ h => h) (Or.inl ⟨by rfl, ?_⟩) ?_ ?_
       rotate_left
       · intro w'
         go_simp
         with_reducible rfl
       rotate_left
       · simp only [Act.put, List.setIfInBounds_toArray, List.set_cons_zero, List.set_cons_succ, i64_w, i32_w]
         rfl
       refine pure_ (i := 6) (N := some 119) (v := ?_) (a' := ?_) #[true, true, true, true, true, true, true, false, false, false, false, false, false, false, false, false, false, false, false, false, false, false, false, false, false, false, false, false, false, false, false, false, false, false, false, false, false, false, false, false, false] rfl rfl (any_of HT_.out (by kernel_rfl)) (fun _ _ _ h => h) (Or.inl ⟨by rfl, ?_⟩) ?_ ?_
       rotate_left
       · intro w'
         go_simp
         with_reducible rfl
       rotate_left
       · simp only [Act.put, List.setIfInBounds_toArray, List.set_cons_zero, List.set_cons_succ, i64_w, i32_w]
         rfl
       refine pure_ (i := 7) (N := some 120) (v := ?_) (a' := ?_) #[true, true, true, true, true, true, true, true, false, false, false, false, false, false, false, false, false, false, false, false, false, false, false, false, false, false, false, false, false, false, false, false, false, false, false, false, false, false, false, false, false] rfl rfl (any_of HT_.out (by kernel_rfl)) (fun _ _ _ h => h) (Or.inl ⟨by rfl, ?_⟩) ?_ ?_
       rotate_left
       · intro w'
         go_simp
         with_reducible rfl
       rotate_left
       · simp only [Act.put, List.setIfInBounds_toArray, List.set_cons_zero, List.set_cons_succ, i64_w, i32_w]
         rfl
       refine pure_ (i := 8) (N := some 121) (v := undef) (a' := ?_) #[true, true, true, true, true, true, true, true, true, false, false, false, false, false, false, false, false, false, false, false, false, false, false, false, false, false, false, false, false, false, false, false, false, false, false, false, false, false, false, false, false] rfl rfl (any_of HT_.out (by kernel_rfl)) (fun _ _ _ h => h) (Or.inr ⟨by rfl, rfl⟩) ?_ ?_
       rotate_left
       · simp only [Act.put, List.setIfInBounds_toArray, List.set_cons_zero, List.set_cons_succ, i64_w, i32_w]
         rfl
       refine pure_ (i := 9) (N := some 122) (v := undef) (a' := ?_) #[true, true, true, true, true, true, true, true, true, true, false, false, false, false, false, false, false, false, false, false, false, false, false, false, false, false, false, false, false, false, false, false, false, false, false, false, false, false, false, false, false] rfl rfl (any_of HT_.out (by kernel_rfl)) (fun _ _ _ h => h) (Or.inr ⟨by rfl, rfl⟩) ?_ ?_
       rotate_left
       · simp only [Act.put, List.setIfInBounds_toArray, List.set_cons_zero, List.set_cons_succ, i64_w, i32_w]
         rfl
       refine pure_ (i := 10) (N := some 123) (v := undef) (a' := ?_) #[true, true, true, true, true, true, true, true, true, true, true, false, false, false, false, false, false, false, false, false, false, false, false, false, false, false, false, false, false, false, false, false, false, false, false, false, false, false, false, false, false] rfl rfl (any_of HT_.out (by kernel_rfl)) (fun _ _ _ h => h) (Or.inr ⟨by rfl, rfl⟩) ?_ ?_
       rotate_left
       · simp only [Act.put, List.setIfInBounds_toArray, List.set_cons_zero, List.set_cons_succ, i64_w, i32_w]
         rfl
       refine pure_ (i := 11) (N := some 124) (v := undef) (a' := ?_) #[true, true, true, true, true, true, true, true, true, true, true, true, false, false, false, false, false, false, false, false, false, false, false, false, false, false, false, false, false, false, false, false, false, false, false, false, false, false, false, false, false] rfl rfl (any_of HT_.out (by kernel_rfl)) (fun _ _ _ h => h) (Or.inr ⟨by rfl, rfl⟩) ?_ ?_
       rotate_left
       · simp only [Act.put, List.setIfInBounds_toArray, List.set_cons_zero, List.set_cons_succ, i64_w, i32_w]
         rfl
       refine pure_ (i := 12) (N := some 125) (v := undef) (a' := ?_) #[true, true, true, true, true, true, true, true, true, true, true, true, true, false, false, false, false, false, false, false, false, false, false, false, false, false, false, false, false, false, false, false, false, false, false, false, false, false, false, false, false] rfl rfl (any_of HT_.out (by kernel_rfl)) (fun _ _ _ h => h) (Or.inr ⟨by rfl, rfl⟩) ?_ ?_
       rotate_left
       · simp only [Act.put, List.setIfInBounds_toArray, List.set_cons_zero, List.set_cons_succ, i64_w, i32_w]
         rfl
       refine pure_ (i := 13) (N := some 126) (v := ?_) (a' := ?_) #[true, true, true, true, true, true, true, true, true, true, true, true, true, true, false, false, false, false, false, false, false, false, false, false, false, false, false, false, false, false, false, false, false, false, false, false, false, false, false, false, false] rfl rfl (any_of HT_.out (by kernel_rfl)) (fun _ _ _ h => h) (Or.inl ⟨by rfl, ?_⟩) ?_ ?_
       rotate_left
       · intro w'
         go_simp
         with_reducible rfl
       rotate_left
       · simp only [Act.put, List.setIfInBounds_toArray, List.set_cons_zero, List.set_cons_succ, i64_w, i32_w]
         rfl
       refine pure_ (i := 14) (N := some 127) (v := ?_) (a' := ?_) #[true, true, true, true, true, true, true, true, true, true, true, true, true, true, true, false, false, false, false, false, false, false, false, false, false, false, false, false, false, false, false, false, false, false, false, false, false, false, false, false, false] rfl rfl (any_of HT_.out (by kernel_rfl)) (fun _ _ _ h => h) (Or.inl ⟨by rfl, ?_⟩) ?_ ?_
       rotate_left
       · intro w'
         go_simp
         with_reducible rfl
       rotate_left
       · simp only [Act.put, List.setIfInBounds_toArray, List.set_cons_zero, List.set_cons_succ, i64_w, i32_w]
         rfl
       refine pure_ (i := 15) (N := some 128) (v := ?_) (a' := ?_) #[true, true, true, true, true, true, true, true, true, true, true, true, true, true, true, true, false, false, false, false, false, false, false, false, false, false, false, false, false, false, false, false, false, false, false, false, false, false, false, false, false] rfl rfl (any_of HT_.out (by kernel_rfl)) (fun _ _ _ h => h) (Or.inl ⟨by rfl, ?_⟩) ?_ ?_
       rotate_left
       · intro w'
         go_simp
         with_reducible rfl
       rotate_left
       · simp only [Act.put, List.setIfInBounds_toArray, List.set_cons_zero, List.set_cons_succ, i64_w, i32_w]
         rfl
       refine pure_ (i := 16) (N := some 129) (v := ?_) (a' := ?_) #[true, true, true, true, true, true, true, true, true, true, true, true, true, true, true, true, true, false, false, false, false, false, false, false, false, false, false, false, false, false, false, false, false, false, false, false, false, false, false, false, false] rfl rfl (any_of HT_.out (by kernel_rfl)) (fun _ _ _ h => h) (Or.inl ⟨by rfl, ?_⟩) ?_ ?_
       rotate_left
       · intro w'
         go_simp
         with_reducible rfl
       rotate_left
       · simp only [Act.put, List.setIfInBounds_toArray, List.set_cons_zero, List.set_cons_succ, i64_w, i32_w]
         rfl
       refine pure_ (i := 17) (N := some 130) (v := ?_) (a' := ?_) #[true, true, true, true, true, true, true, true, true, true, true, true, true, true, true, true, true, true, false, false, false, false, false, false, false, false, false, false, false, false, false, false, false, false, false, false, false, false, false, false, false] rfl rfl (any_of HT_.out (by kernel_rfl)) (fun _ _ _ h => h) (Or.inl ⟨by rfl, ?_⟩) ?_ ?_
       rotate_left
       · intro w'
         go_simp
         with_reducible rfl
       rotate_left
       · simp only [Act.put, List.setIfInBounds_toArray, List.set_cons_zero, List.set_cons_succ, i64_w, i32_w]
         rfl
       refine pure_ (i := 18) (N := some 131) (v := undef) (a' := ?_) #[true, true, true, true, true, true, true, true, true, true, true, true, true, true, true, true, true, true, true, false, false, false, false, false, false, false, false, false, false, false, false, false, false, false, false, false, false, false, false, false, false] rfl rfl (any_of HT_.out (by kernel_rfl)) (fun _ _ _ h => h) (Or.inr ⟨by rfl, rfl⟩) ?_ ?_
       rotate_left
       · simp only [Act.put, List.setIfInBounds_toArray, List.set_cons_zero, List.set_cons_succ, i64_w, i32_w]
         rfl
       refine pure_ (i := 19) (N := some 132) (v := undef) (a' := ?_) #[true, true, true, true, true, true, true, true, true, true, true, true, true, true, true, true, true, true, true, true, false, false, false, false, false, false, false, false, false, false, false, false, false, false, false, false, false, false, false, false, false] rfl rfl (any_of HT_.out (by kernel_rfl)) (fun _ _ _ h => h) (Or.inr ⟨by rfl, rfl⟩) ?_ ?_
       rotate_left
       · simp only [Act.put, List.setIfInBounds_toArray, List.set_cons_zero, List.set_cons_succ, i64_w, i32_w]
         rfl
       refine pure_ (i := 20) (N := some 133) (v := undef) (a' := ?_) #[true, true, true, true, true, true, true, true, true, true, true, true, true, true, true, true, true, true, true, true, true, false, false, false, false, false, false, false, false, false, false, false, false, false, false, false, false, false, false, false, false] rfl rfl (any_of HT_.out (by kernel_rfl)) (fun _ _ _ h => h) (Or.inr ⟨by rfl, rfl⟩) ?_ ?_
       rotate_left
       · simp only [Act.put, List.setIfInBounds_toArray, List.set_cons_zero, List.set_cons_succ, i64_w, i32_w]
         rfl
       refine pure_ (i := 21) (N := some 134) (v := undef) (a' := ?_) #[true, true, true, true, true, true, true, true, true, true, true, true, true, true, true, true, true, true, true, true, true, true, false, false, false, false, false, false, false, false, false, false, false, false, false, false, false, false, false, false, false] rfl rfl (any_of HT_.out (by kernel_rfl)) (fun _ _ _ h => h) (Or.inr ⟨by rfl, rfl⟩) ?_ ?_
       rotate_left
       · simp only [Act.put, List.setIfInBounds_toArray, List.set_cons_zero, List.set_cons_succ, i64_w, i32_w]
         rfl
       refine pure_ (i := 22) (N := some 135) (v := undef) (a' := ?_) #[true, true, true, true, true, true, true, true, true, true, true, true, true, true, true, true, true, true, true, true, true, true, true, false, false, false, false, false, false, false, false, false, false, false, false, false, false, false, false, false, false] rfl rfl (any_of HT_.out (by kernel_rfl)) (fun _ _ _ h => h) (Or.inr ⟨by rfl, rfl⟩) ?_ ?_
       rotate_left
       · simp only [Act.put, List.setIfInBounds_toArray, List.set_cons_zero, List.set_cons_succ, i64_w, i32_w]
         rfl
       refine pure_ (i := 23) (N := some 136) (v := ?_) (a' := ?_) #[true, true, true, true, true, true, true, true, true, true, true, true, true, true, true, true, true, true, true, true, true, true, true, true, false, false, false, false, false, false, false, false, false, false, false, false, false, false, false, false, false] rfl rfl (any_of HT_.out (by kernel_rfl)) (fun _ _ _ h => h) (Or.inl ⟨by rfl, ?_⟩) ?_ ?_
       rotate_left
       · intro w'
         go_simp
         with_reducible rfl
       rotate_left
       · simp only [Act.put, List.setIfInBounds_toArray, List.set_cons_zero, List.set_cons_succ, i64_w, i32_w]
         rfl
       refine pure_ (i := 24) (N := some 137) (v := ?_) (a' := ?_) #[true, true, true, true, true, true, true, true, true, true, true, true, true, true, true, true, true, true, true, true, true, true, true, true, true, false, false, false, false, false, false, false, false, false, false, false, false, false, false, false, false] rfl rfl (any_of HT_.out (by kernel_rfl)) (fun _ _ _ h => h) (Or.inl ⟨by rfl, ?_⟩) ?_ ?_
       rotate_left
       · intro w'
         go_simp
         with_reducible rfl
       rotate_left
       · simp only [Act.put, List.setIfInBounds_toArray, List.set_cons_zero, List.set_cons_succ, i64_w, i32_w]
         rfl
       refine pure_ (i := 25) (N := some 138) (v := ?_) (a' := ?_) #[true, true, true, true, true, true, true, true, true, true, true, true, true, true, true, true, true, true, true, true, true, true, true, true, true, true, false, false, false, false, false, false, false, false, false, false, false, false, false, false, false] rfl rfl (any_of HT_.out (by kernel_rfl)) (fun _ _ _ h => h) (Or.inl ⟨by rfl, ?_⟩) ?_ ?_
       rotate_left
       · intro w'
         go_simp
         with_reducible rfl
       rotate_left
       · simp only [Act.put, List.setIfInBounds_toArray, List.set_cons_zero, List.set_cons_succ, i64_w, i32_w]
         rfl
       refine pure_ (i := 26) (N := some 139) (v := ?_) (a' := ?_) #[true, true, true, true, true, true, true, true, true, true, true, true, true, true, true, true, true, true, true, true, true, true, true, true, true, true, true, false, false, false, false, false, false, false, false, false, false, false, false, false, false] rfl rfl (any_of HT_.out (by kernel_rfl)) (fun _ _ _ h => h) (Or.inl ⟨by rfl, ?_⟩) ?_ ?_
       rotate_left
       · intro w'
         go_simp
         with_reducible rfl
       rotate_left
       · simp only [Act.put, List.setIfInBounds_toArray, List.set_cons_zero, List.set_cons_succ, i64_w, i32_w]
         rfl
       refine pure_ (i := 27) (N := some 140) (v := ?_) (a' := ?_) #[true, true, true, true, true, true, true, true, true, true, true, true, true, true, true, true, true, true, true, true, true, true, true, true, true, true, true, true, false, false, false, false, false, false, false, false, false, false, false, false, false] rfl rfl (any_of HT_.out (by kernel_rfl)) (fun _ _ _ h => h) (Or.inl ⟨by rfl, ?_⟩) ?_ ?_
       rotate_left
       · intro w'
         go_simp
         with_reducible rfl
       rotate_left
       · simp only [Act.put, List.setIfInBounds_toArray, List.set_cons_zero, List.set_cons_succ, i64_w, i32_w]
         rfl
       refine pure_ (i := 28) (N := some 141) (v := ?_) (a' := ?_) #[true, true, true, true, true, true, true, true, true, true, true, true, true, true, true, true, true, true, true, true, true, true, true, true, true, true, true, true, true, false, false, false, false, false, false, false, false, false, false, false, false] rfl rfl (any_of HT_.out (by kernel_rfl)) (fun _ _ _ h => h) (Or.inl ⟨by rfl, ?_⟩) ?_ ?_
       rotate_left
       · intro w'
         go_simp
         with_reducible rfl
       rotate_left
       · simp only [Act.put, List.setIfInBounds_toArray, List.set_cons_zero, List.set_cons_succ, i64_w, i32_w]
         rfl
       refine pure_ (i := 30) (N := some 143) (v := ?_) (a' := ?_) #[true, true, true, true, true, true, true, true, true, true, true, true, true, true, true, true, true, true, true, true, true, true, true, true, true, true, true, true, true, false, true, false, false, false, false, false, false, false, false, false, false] rfl rfl (any_of HT_.out (by kernel_rfl)) (fun _ _ _ h => h) (Or.inl ⟨by rfl, ?_⟩) ?_ ?_
       rotate_left
       · intro w'
         go_simp
         with_reducible rfl
       rotate_left
       · simp only [Act.put, List.setIfInBounds_toArray, List.set_cons_zero, List.set_cons_succ, i64_w, i32_w]
         rfl
       refine pure_ (i := 32) (N := some 145) (v := ?_) (a' := ?_) #[true, true, true, true, true, true, true, true, true, true, true, true, true, true, true, true, true, true, true, true, true, true, true, true, true, true, true, true, true, false, true, false, true, false, false, false, false, false, false, false, false] rfl rfl (any_of HT_.out (by kernel_rfl)) (fun _ _ _ h => h) (Or.inl ⟨by rfl, ?_⟩) ?_ ?_
       rotate_left
       · intro w'
         go_simp
         with_reducible rfl
       rotate_left
       · simp only [Act.put, List.setIfInBounds_toArray, List.set_cons_zero, List.set_cons_succ, i64_w, i32_w]
         rfl
       refine pure_ (i := 34) (N := some 147) (v := ?_) (a' := ?_) #[true, true, true, true, true, true, true, true, true, true, true, true, true, true, true, true, true, true, true, true, true, true, true, true, true, true, true, true, true, false, true, false, true, false, true, false, false, false, false, false, false] rfl rfl (any_of HT_.out (by kernel_rfl)) (fun _ _ _ h => h) (Or.inl ⟨by rfl, ?_⟩) ?_ ?_
       rotate_left
       · intro w'
         go_simp
         with_reducible rfl
       rotate_left
       · simp only [Act.put, List.setIfInBounds_toArray, List.set_cons_zero, List.set_cons_succ, i64_w, i32_w]
         rfl
       refine pure_ (i := 37) (N := some 150) (v := ?_) (a' := ?_) #[true, true, true, true, true, true, true, true, true, true, true, true, true, true, true, true, true, true, true, true, true, true, true, true, true, true, true, true, true, false, true, false, true, false, true, false, false, true, false, false, false] rfl rfl (any_of HT_.out (by kernel_rfl)) (fun _ _ _ h => h) (Or.inl ⟨by rfl, ?_⟩) ?_ ?_
       rotate_left
       · intro w'
         go_simp
         with_reducible rfl
       rotate_left
       · simp only [Act.put, List.setIfInBounds_toArray, List.set_cons_zero, List.set_cons_succ, i64_w, i32_w]
         rfl
       refine take_ (i := 29) (N := some 142) (v := ?_) (a' := ?_) #[true, true, true, true, true, true, true, true, true, true, true, true, true, true, true, true, true, true, true, true, true, true, true, true, true, true, true, true, true, true, true, false, true, false, true, false, false, true, false, false, false] rfl rfl (take_ofW HT_.out HW_.out (by kernel_rfl)) (fun _ _ _ h => h) (Or.inl ⟨by rfl, ?_⟩) hHeld ?_ ?_
       rotate_left
       · rintro w' ⟨s0, s1, s2, s3, s4, s5, s6⟩
         go_simp
         with_reducible rfl
       rotate_left
       · simp only [Act.put, List.setIfInBounds_toArray, List.set_cons_zero, List.set_cons_succ, i64_w, i32_w]
         rfl
       refine take_ (i := 31) (N := some 144) (v := ?_) (a' := ?_) #[true, true, true, true, true, true, true, true, true, true, true, true, true, true, true, true, true, true, true, true, true, true, true, true, true, true, true, true, true, true, true, true, true, false, true, false, false, true, false, false, false] rfl rfl (take_ofW HT_.out HW_.out (by kernel_rfl)) (fun _ _ _ h => h) (Or.inl ⟨by rfl, ?_⟩) hHeld ?_ ?_
       rotate_left
       · rintro w' ⟨s0, s1, s2, s3, s4, s5, s6⟩
         go_simp
         with_reducible rfl
       rotate_left
       · simp only [Act.put, List.setIfInBounds_toArray, List.set_cons_zero, List.set_cons_succ, i64_w, i32_w]
         rfl
       refine take_ (i := 33) (N := some 146) (v := ?_) (a' := ?_) #[true, true, true, true, true, true, true, true, true, true, true, true, true, true, true, true, true, true, true, true, true, true, true, true, true, true, true, true, true, true, true, true, true, true, true, false, false, true, false, false, false] rfl rfl (take_ofW HT_.out HW_.out (by kernel_rfl)) (fun _ _ _ h => h) (Or.inl ⟨by rfl, ?_⟩) hHeld ?_ ?_
       rotate_left
       · rintro w' ⟨s0, s1, s2, s3, s4, s5, s6⟩
         go_simp
         with_reducible rfl
       rotate_left
       · simp only [Act.put, List.setIfInBounds_toArray, List.set_cons_zero, List.set_cons_succ, i64_w, i32_w]
         rfl
       refine take_ (i := 35) (N := some 148) (v := ?_) (a' := ?_) #[true, true, true, true, true, true, true, true, true, true, true, true, true, true, true, true, true, true, true, true, true, true, true, true, true, true, true, true, true, true, true, true, true, true, true, true, false, true, false, false, false] rfl rfl (take_ofW HT_.out HW_.out (by kernel_rfl)) (fun _ _ _ h => h) (Or.inl ⟨by rfl, ?_⟩) hHeld ?_ ?_
       rotate_left
       · rintro w' ⟨s0, s1, s2, s3, s4, s5, s6⟩
         go_simp
         with_reducible rfl
       rotate_left
       · simp only [Act.put, List.setIfInBounds_toArray, List.set_cons_zero, List.set_cons_succ, i64_w, i32_w]
         rfl
       refine take_ (i := 38) (N := some 151) (v := ?_) (a' := ?_) #[true, true, true, true, true, true, true, true, true, true, true, true, true, true, true, true, true, true, true, true, true, true, true, true, true, true, true, true, true, true, true, true, true, true, true, true, false, true, true, false, false] rfl rfl (take_ofW HT_.out HW_.out (by kernel_rfl)) (fun _ _ _ h => h) (Or.inl ⟨by rfl, ?_⟩) hHeld ?_ ?_
       rotate_left
       · rintro w' ⟨s0, s1, s2, s3, s4, s5, s6⟩
         go_simp
         with_reducible rfl
       rotate_left
       · simp only [Act.put, List.setIfInBounds_toArray, List.set_cons_zero, List.set_cons_succ, i64_w, i32_w]
         rfl
       refine one_ (i := 36) (N := some 149) #[true, true, true, true, true, true, true, true, true, true, true, true, true, true, true, true, true, true, true, true, true, true, true, true, true, true, true, true, true, true, true, true, true, true, true, true, true, true, true, false, false] rfl rfl (one_of HT_.out (by kernel_rfl)) (by decide) (fun K hK => ?_)
       refine goes_ Try.func18 (by kernel_rfl) rfl #[.pointer (some ⟨S, 0, none⟩), .int .i64 nd.f0, .int .i64 nd.f1, .int .i64 nd.f2] (by rfl) rfl rfl (by (try simp only [List.map_toArray, List.map_cons, List.map_nil]); first | done | rfl) ?_
       refine (M.out.node HND.out).mono ?_
       rintro e wz ⟨rfl, hm, hb, hk⟩
       refine ⟨_, rfl, ?_⟩
       have HMZ := Aside0.mk hm
       have HLZ := Aside0.mk (LB.out.trans hb)
       have Zb7 := Aside0.mk (hk _ _ Xb7.out Fb7.out)
       have Zb8 := Aside0.mk (hk _ _ Xb8.out Fb8.out)
       have Zb10 := Aside0.mk (hk _ _ Xb10.out Fb10.out)
       have Zb12 := Aside0.mk (hk _ _ Xb12.out Fb12.out)
       clear hm hb hk
       refine hK.out _ _ ⟨HMZ.out.c0, (blk_cell Zb7.out 0).trans rfl, (blk_cell Zb8.out 0).trans rfl, (blk_cell Zb8.out 1).trans rfl, (blk_cell Zb8.out 2).trans rfl, (blk_cell Zb10.out 0).trans rfl, (blk_cell Zb12.out 0).trans rfl⟩ (fun hHeld => ?_)
       clear hK K
       refine norm_ (a' := ?_) ?_ ?_
       rotate_left
       · show Act.put _ (some 149) _ = _
         simp only [Act.put, List.setIfInBounds_toArray, List.set_cons_zero, List.set_cons_succ, i64_w, i32_w]
         rfl
       refine pure_ (i := 39) (N := some 152) (v := ?_) (a' := ?_) #[true, true, true, true, true, true, true, true, true, true, true, true, true, true, true, true, true, true, true, true, true, true, true, true, true, true, true, true, true, true, true, true, true, true, true, true, true, true, true, true, false] rfl rfl (any_of HT_.out (by kernel_rfl)) (fun _ _ _ h => h) (Or.inl ⟨by rfl, ?_⟩) ?_ ?_
       rotate_left
       · intro w'
         go_simp
         with_reducible rfl
       rotate_left
       · simp only [Act.put, List.setIfInBounds_toArray, List.set_cons_zero, List.set_cons_succ, i64_w, i32_w]
         rfl
       refine pure_ (i := 40) (N := some 153) (v := ?_) (a' := ?_) #[true, true, true, true, true, true, true, true, true, true, true, true, true, true, true, true, true, true, true, true, true, true, true, true, true, true, true, true, true, true, true, true, true, true, true, true, true, true, true, true, true] rfl rfl (any_of HT_.out (by kernel_rfl)) (fun _ _ _ h => h) (Or.inl ⟨by rfl, ?_⟩) ?_ ?_
       rotate_left
       · intro w'
         go_simp
         with_reducible rfl
       rotate_left
       · simp only [Act.put, List.setIfInBounds_toArray, List.set_cons_zero, List.set_cons_succ, i64_w, i32_w]
         rfl
       refine done_ (done_of HT_.out (by kernel_rfl)) ?_
       clear hHeld
       go_wp2
       go_roundw
       case measure => simp [intOf]; omega
       case rel => exact ⟨i + 1, rfl, ⟨by omega⟩, HMZ, HLZ⟩
      | true =>
       as_aux_lemma =>
       have dz := HQ2.out rfl
       clear dy
       refine start_ (n := 41) (S := fun w' => w'.cell? ⟨G, 0, none⟩ = some (.pointer (some ⟨S, 0, none⟩)) ∧ w'.cell? ⟨b7, 0, none⟩ = some (.int .i64 x) ∧ w'.cell? ⟨b8, 0, none⟩ = some (.int .i64 nd.f0) ∧ w'.cell? ⟨b8, 1, none⟩ = some (.int .i64 nd.f1) ∧ w'.cell? ⟨b8, 2, none⟩ = some (.int .i64 nd.f2) ∧ w'.cell? ⟨b10, 0, none⟩ = some (.int .i64 (atN ns nd.f1).f0) ∧ w'.cell? ⟨b12, 0, none⟩ = some (.int .i64 (atN ns nd.f2).f0)) (ds := []) #[false, false, false, false, false, false, false, false, false, false, false, false, false, false, false, false, false, false, false, false, false, false, false, false, false, false, false, false, false, false, false, false, false, false, false, false, false, false, false, false, false] (by kernel_rfl) rfl rfl ⟨M.out.c0, (blk_cell Xb7.out 0).trans rfl, (blk_cell Xb8.out 0).trans rfl, (blk_cell Xb8.out 1).trans rfl, (blk_cell Xb8.out 2).trans rfl, (blk_cell Xb10.out 0).trans rfl, (blk_cell Xb12.out 0).trans rfl⟩ (fun hHeld => ?_)
       refine with_tabW quest.tab17 quest.bits17 (fun HT_ HW_ => ?_)
       refine pure_ (i := 0) (N := some 113) (v := ?_) (a' := ?_) #[true, false, false, false, false, false, false, false, false, false, false, false, false, false, false, false, false, false, false, false, false, false, false, false, false, false, false, false, false, false, false, false, false, false, false, false, false, false, false, false, false] rfl rfl (any_of HT_.out (by kernel_rfl)) (fun _ _ _ h => h) (Or.inl ⟨by rfl, ?_⟩) ?_ ?_
       rotate_left
       · intro w'
         go_simp
         with_reducible rfl
       rotate_left
       · simp only [Act.put, List.setIfInBounds_toArray, List.set_cons_zero, List.set_cons_succ, i64_w, i32_w]
         rfl
       refine pure_ (i := 2) (N := some 115) (v := ?_) (a' := ?_) #[true, false, true, false, false, false, false, false, false, false, false, false, false, false, false, false, false, false, false, false, false, false, false, false, false, false, false, false, false, false, false, false, false, false, false, false, false, false, false, false, false] rfl rfl (any_of HT_.out (by kernel_rfl)) (fun _ _ _ h => h) (Or.inl ⟨by rfl, ?_⟩) ?_ ?_
       rotate_left
       · intro w'
         go_simp
         with_reducible rfl
       rotate_left
       · simp only [Act.put, List.setIfInBounds_toArray, List.set_cons_zero, List.set_cons_succ, i64_w, i32_w]
         rfl
       refine take_ (i := 1) (N := some 114) (v := ?_) (a' := ?_) #[true, true, true, false, false, false, false, false, false, false, false, false, false, false, false, false, false, false, false, false, false, false, false, false, false, false, false, false, false, false, false, false, false, false, false, false, false, false, false, false, false] rfl rfl (take_ofW HT_.out HW_.out (by kernel_rfl)) (fun _ _ _ h => h) (Or.inl ⟨by rfl, ?_⟩) hHeld ?_ ?_
       rotate_left
       · rintro w' ⟨s0, s1, s2, s3, s4, s5, s6⟩
         go_simp
         with_reducible rfl
       rotate_left
       · simp only [Act.put, List.setIfInBounds_toArray, List.set_cons_zero, List.set_cons_succ, i64_w, i32_w]
         rfl
       refine take_ (i := 3) (N := some 116) (v := ?_) (a' := ?_) #[true, true, true, true, false, false, false, false, false, false, false, false, false, false, false, false, false, false, false, false, false, false, false, false, false, false, false, false, false, false, false, false, false, false, false, false, false, false, false, false, false] rfl rfl (take_ofW HT_.out HW_.out (by kernel_rfl)) (fun _ _ _ h => h) (Or.inl ⟨by rfl, ?_⟩) hHeld ?_ ?_
       rotate_left
       · rintro w' ⟨s0, s1, s2, s3, s4, s5, s6⟩
         go_simp
         with_reducible rfl
       rotate_left
       · simp only [Act.put, List.setIfInBounds_toArray, List.set_cons_zero, List.set_cons_succ, i64_w, i32_w]
         rfl
       refine pure_ (i := 4) (N := some 117) (v := ?_) (a' := ?_) #[true, true, true, true, true, false, false, false, false, false, false, false, false, false, false, false, false, false, false, false, false, false, false, false, false, false, false, false, false, false, false, false, false, false, false, false, false, false, false, false, false] rfl rfl (any_of HT_.out (by kernel_rfl)) (fun _ _ _ h => h) (Or.inl ⟨by rfl, ?_⟩) ?_ ?_
       rotate_left
       · intro w'
         go_simp
         with_reducible rfl
       rotate_left
       · simp only [Act.put, List.setIfInBounds_toArray, List.set_cons_zero, List.set_cons_succ, i64_w, i32_w]
         rfl
       refine pure_ (i := 5) (N := some 118) (v := ?_) (a' := ?_) #[true, true, true, true, true, true, false, false, false, false, false, false, false, false, false, false, false, false, false, false, false, false, false, false, false, false, false, false, false, false, false, false, false, false, false, false, false, false, false, false, false] rfl rfl (any_of HT_.out (by kernel_rfl)) (fun _ _ _ h => h) (Or.inl ⟨by rfl, ?_⟩) ?_ ?_
       rotate_left
       · intro w'
         go_simp
         with_reducible rfl
       rotate_left
       · simp only [Act.put, List.setIfInBounds_toArray, List.set_cons_zero, List.set_cons_succ, i64_w, i32_w]
         rfl
       refine pure_ (i := 6) (N := some 119) (v := ?_) (a' := ?_) #[true, true, true, true, true, true, true, false, false, false, false, false, false, false, false, false, false, false, false, false, false, false, false, false, false, false, false, false, false, false, false, false, false, false, false, false, false, false, false, false, false] rfl rfl (any_of HT_.out (by kernel_rfl)) (fun _ _ _ h => h) (Or.inl ⟨by rfl, ?_⟩) ?_ ?_
       rotate_left
       · intro w'
         go_simp
         with_reducible rfl
       rotate_left
       · simp only [Act.put, List.setIfInBounds_toArray, List.set_cons_zero, List.set_cons_succ, i64_w, i32_w]
         rfl
       refine pure_ (i := 7) (N := some 120) (v := ?_) (a' := ?_) #[true, true, true, true, true, true, true, true, false, false, false, false, false, false, false, false, false, false, false, false, false, false, false, false, false, false, false, false, false, false, false, false, false, false, false, false, false, false, false, false, false] rfl rfl (any_of HT_.out (by kernel_rfl)) (fun _ _ _ h => h) (Or.inl ⟨by rfl, ?_⟩) ?_ ?_
       rotate_left
       · intro w'
         go_simp
         with_reducible rfl
       rotate_left
       · simp only [Act.put, List.setIfInBounds_toArray, List.set_cons_zero, List.set_cons_succ, i64_w, i32_w]
         rfl
       refine pure_ (i := 8) (N := some 121) (v := undef) (a' := ?_) #[true, true, true, true, true, true, true, true, true, false, false, false, false, false, false, false, false, false, false, false, false, false, false, false, false, false, false, false, false, false, false, false, false, false, false, false, false, false, false, false, false] rfl rfl (any_of HT_.out (by kernel_rfl)) (fun _ _ _ h => h) (Or.inr ⟨by rfl, rfl⟩) ?_ ?_
       rotate_left
       · simp only [Act.put, List.setIfInBounds_toArray, List.set_cons_zero, List.set_cons_succ, i64_w, i32_w]
         rfl
       refine pure_ (i := 9) (N := some 122) (v := undef) (a' := ?_) #[true, true, true, true, true, true, true, true, true, true, false, false, false, false, false, false, false, false, false, false, false, false, false, false, false, false, false, false, false, false, false, false, false, false, false, false, false, false, false, false, false] rfl rfl (any_of HT_.out (by kernel_rfl)) (fun _ _ _ h => h) (Or.inr ⟨by rfl, rfl⟩) ?_ ?_
       rotate_left
       · simp only [Act.put, List.setIfInBounds_toArray, List.set_cons_zero, List.set_cons_succ, i64_w, i32_w]
         rfl
       refine pure_ (i := 10) (N := some 123) (v := undef) (a' := ?_) #[true, true, true, true, true, true, true, true, true, true, true, false, false, false, false, false, false, false, false, false, false, false, false, false, false, false, false, false, false, false, false, false, false, false, false, false, false, false, false, false, false] rfl rfl (any_of HT_.out (by kernel_rfl)) (fun _ _ _ h => h) (Or.inr ⟨by rfl, rfl⟩) ?_ ?_
       rotate_left
       · simp only [Act.put, List.setIfInBounds_toArray, List.set_cons_zero, List.set_cons_succ, i64_w, i32_w]
         rfl
       refine pure_ (i := 11) (N := some 124) (v := undef) (a' := ?_) #[true, true, true, true, true, true, true, true, true, true, true, true, false, false, false, false, false, false, false, false, false, false, false, false, false, false, false, false, false, false, false, false, false, false, false, false, false, false, false, false, false] rfl rfl (any_of HT_.out (by kernel_rfl)) (fun _ _ _ h => h) (Or.inr ⟨by rfl, rfl⟩) ?_ ?_
       rotate_left
       · simp only [Act.put, List.setIfInBounds_toArray, List.set_cons_zero, List.set_cons_succ, i64_w, i32_w]
         rfl
       refine pure_ (i := 12) (N := some 125) (v := undef) (a' := ?_) #[true, true, true, true, true, true, true, true, true, true, true, true, true, false, false, false, false, false, false, false, false, false, false, false, false, false, false, false, false, false, false, false, false, false, false, false, false, false, false, false, false] rfl rfl (any_of HT_.out (by kernel_rfl)) (fun _ _ _ h => h) (Or.inr ⟨by rfl, rfl⟩) ?_ ?_
       rotate_left
       · simp only [Act.put, List.setIfInBounds_toArray, List.set_cons_zero, List.set_cons_succ, i64_w, i32_w]
         rfl
       refine pure_ (i := 13) (N := some 126) (v := ?_) (a' := ?_) #[true, true, true, true, true, true, true, true, true, true, true, true, true, true, false, false, false, false, false, false, false, false, false, false, false, false, false, false, false, false, false, false, false, false, false, false, false, false, false, false, false] rfl rfl (any_of HT_.out (by kernel_rfl)) (fun _ _ _ h => h) (Or.inl ⟨by rfl, ?_⟩) ?_ ?_
       rotate_left
       · intro w'
         go_simp
         with_reducible rfl
       rotate_left
       · simp only [Act.put, List.setIfInBounds_toArray, List.set_cons_zero, List.set_cons_succ, i64_w, i32_w]
         rfl
       refine pure_ (i := 14) (N := some 127) (v := ?_) (a' := ?_) #[true, true, true, true, true, true, true, true, true, true, true, true, true, true, true, false, false, false, false, false, false, false, false, false, false, false, false, false, false, false, false, false, false, false, false, false, false, false, false, false, false] rfl rfl (any_of HT_.out (by kernel_rfl)) (fun _ _ _ h => h) (Or.inl ⟨by rfl, ?_⟩) ?_ ?_
       rotate_left
       · intro w'
         go_simp
         with_reducible rfl
       rotate_left
       · simp only [Act.put, List.setIfInBounds_toArray, List.set_cons_zero, List.set_cons_succ, i64_w, i32_w]
         rfl
       refine pure_ (i := 15) (N := some 128) (v := ?_) (a' := ?_) #[true, true, true, true, true, true, true, true, true, true, true, true, true, true, true, true, false, false, false, false, false, false, false, false, false, false, false, false, false, false, false, false, false, false, false, false, false, false, false, false, false] rfl rfl (any_of HT_.out (by kernel_rfl)) (fun _ _ _ h => h) (Or.inl ⟨by rfl, ?_⟩) ?_ ?_
       rotate_left
       · intro w'
         go_simp
         with_reducible rfl
       rotate_left
       · simp only [Act.put, List.setIfInBounds_toArray, List.set_cons_zero, List.set_cons_succ, i64_w, i32_w]
         rfl
       refine pure_ (i := 16) (N := some 129) (v := ?_) (a' := ?_) #[true, true, true, true, true, true, true, true, true, true, true, true, true, true, true, true, true, false, false, false, false, false, false, false, false, false, false, false, false, false, false, false, false, false, false, false, false, false, false, false, false] rfl rfl (any_of HT_.out (by kernel_rfl)) (fun _ _ _ h => h) (Or.inl ⟨by rfl, ?_⟩) ?_ ?_
       rotate_left
       · intro w'
         go_simp
         with_reducible rfl
       rotate_left
       · simp only [Act.put, List.setIfInBounds_toArray, List.set_cons_zero, List.set_cons_succ, i64_w, i32_w]
         rfl
       refine pure_ (i := 17) (N := some 130) (v := ?_) (a' := ?_) #[true, true, true, true, true, true, true, true, true, true, true, true, true, true, true, true, true, true, false, false, false, false, false, false, false, false, false, false, false, false, false, false, false, false, false, false, false, false, false, false, false] rfl rfl (any_of HT_.out (by kernel_rfl)) (fun _ _ _ h => h) (Or.inl ⟨by rfl, ?_⟩) ?_ ?_
       rotate_left
       · intro w'
         go_simp
         with_reducible rfl
       rotate_left
       · simp only [Act.put, List.setIfInBounds_toArray, List.set_cons_zero, List.set_cons_succ, i64_w, i32_w]
         rfl
       refine pure_ (i := 18) (N := some 131) (v := ?_) (a' := ?_) #[true, true, true, true, true, true, true, true, true, true, true, true, true, true, true, true, true, true, true, false, false, false, false, false, false, false, false, false, false, false, false, false, false, false, false, false, false, false, false, false, false] rfl rfl (any_of HT_.out (by kernel_rfl)) (fun _ _ _ h => h) (Or.inl ⟨by rfl, ?_⟩) ?_ ?_
       rotate_left
       · intro w'
         go_simp
         with_reducible rfl
       rotate_left
       · simp only [Act.put, List.setIfInBounds_toArray, List.set_cons_zero, List.set_cons_succ, i64_w, i32_w]
         rfl
       refine pure_ (i := 20) (N := some 133) (v := ?_) (a' := ?_) #[true, true, true, true, true, true, true, true, true, true, true, true, true, true, true, true, true, true, true, false, true, false, false, false, false, false, false, false, false, false, false, false, false, false, false, false, false, false, false, false, false] rfl rfl (any_of HT_.out (by kernel_rfl)) (fun _ _ _ h => h) (Or.inl ⟨by rfl, ?_⟩) ?_ ?_
       rotate_left
       · intro w'
         go_simp
         with_reducible rfl
       rotate_left
       · simp only [Act.put, List.setIfInBounds_toArray, List.set_cons_zero, List.set_cons_succ, i64_w, i32_w]
         rfl
       refine take_ (i := 19) (N := some 132) (v := ?_) (a' := ?_) #[true, true, true, true, true, true, true, true, true, true, true, true, true, true, true, true, true, true, true, true, true, false, false, false, false, false, false, false, false, false, false, false, false, false, false, false, false, false, false, false, false] rfl rfl (take_ofW HT_.out HW_.out (by kernel_rfl)) (fun _ _ _ h => h) (Or.inl ⟨by rfl, ?_⟩) hHeld ?_ ?_
       rotate_left
       · rintro w' ⟨s0, s1, s2, s3, s4, s5, s6⟩
         go_simp
         with_reducible rfl
       rotate_left
       · simp only [Act.put, List.setIfInBounds_toArray, List.set_cons_zero, List.set_cons_succ, i64_w, i32_w]
         rfl
       refine take_ (i := 21) (N := some 134) (v := ?_) (a' := ?_) #[true, true, true, true, true, true, true, true, true, true, true, true, true, true, true, true, true, true, true, true, true, true, false, false, false, false, false, false, false, false, false, false, false, false, false, false, false, false, false, false, false] rfl rfl (take_ofW HT_.out HW_.out (by kernel_rfl)) (fun _ _ _ h => h) (Or.inl ⟨by rfl, ?_⟩) hHeld ?_ ?_
       rotate_left
       · rintro w' ⟨s0, s1, s2, s3, s4, s5, s6⟩
         go_simp
         with_reducible rfl
       rotate_left
       · simp only [Act.put, List.setIfInBounds_toArray, List.set_cons_zero, List.set_cons_succ, i64_w, i32_w]
         rfl
       refine pure_ (i := 22) (N := some 135) (v := ?_) (a' := ?_) #[true, true, true, true, true, true, true, true, true, true, true, true, true, true, true, true, true, true, true, true, true, true, true, false, false, false, false, false, false, false, false, false, false, false, false, false, false, false, false, false, false] rfl rfl (any_of HT_.out (by kernel_rfl)) (fun _ _ _ h => h) (Or.inl ⟨by rfl, ?_⟩) ?_ ?_
       rotate_left
       · intro w'
         go_simp
         with_reducible rfl
       rotate_left
       · simp only [Act.put, List.setIfInBounds_toArray, List.set_cons_zero, List.set_cons_succ, i64_w, i32_w]
         rfl
       refine pure_ (i := 23) (N := some 136) (v := ?_) (a' := ?_) #[true, true, true, true, true, true, true, true, true, true, true, true, true, true, true, true, true, true, true, true, true, true, true, true, false, false, false, false, false, false, false, false, false, false, false, false, false, false, false, false, false] rfl rfl (any_of HT_.out (by kernel_rfl)) (fun _ _ _ h => h) (Or.inl ⟨by rfl, ?_⟩) ?_ ?_
       rotate_left
       · intro w'
         go_simp
         with_reducible rfl
       rotate_left
       · simp only [Act.put, List.setIfInBounds_toArray, List.set_cons_zero, List.set_cons_succ, i64_w, i32_w]
         rfl
       refine pure_ (i := 24) (N := some 137) (v := ?_) (a' := ?_) #[true, true, true, true, true, true, true, true, true, true, true, true, true, true, true, true, true, true, true, true, true, true, true, true, true, false, false, false, false, false, false, false, false, false, false, false, false, false, false, false, false] rfl rfl (any_of HT_.out (by kernel_rfl)) (fun _ _ _ h => h) (Or.inl ⟨by rfl, ?_⟩) ?_ ?_
       rotate_left
       · intro w'
         go_simp
         with_reducible rfl
       rotate_left
       · simp only [Act.put, List.setIfInBounds_toArray, List.set_cons_zero, List.set_cons_succ, i64_w, i32_w]
         rfl
       refine pure_ (i := 25) (N := some 138) (v := ?_) (a' := ?_) #[true, true, true, true, true, true, true, true, true, true, true, true, true, true, true, true, true, true, true, true, true, true, true, true, true, true, false, false, false, false, false, false, false, false, false, false, false, false, false, false, false] rfl rfl (any_of HT_.out (by kernel_rfl)) (fun _ _ _ h => h) (Or.inl ⟨by rfl, ?_⟩) ?_ ?_
       rotate_left
       · intro w'
         go_simp
         with_reducible rfl
       rotate_left
       · simp only [Act.put, List.setIfInBounds_toArray, List.set_cons_zero, List.set_cons_succ, i64_w, i32_w]
         rfl
       refine pure_ (i := 26) (N := some 139) (v := ?_) (a' := ?_) #[true, true, true, true, true, true, true, true, true, true, true, true, true, true, true, true, true, true, true, true, true, true, true, true, true, true, true, false, false, false, false, false, false, false, false, false, false, false, false, false, false] rfl rfl (any_of HT_.out (by kernel_rfl)) (fun _ _ _ h => h) (Or.inl ⟨by rfl, ?_⟩) ?_ ?_
       rotate_left
       · intro w'
         go_simp
         with_reducible rfl
       rotate_left
       · simp only [Act.put, List.setIfInBounds_toArray, List.set_cons_zero, List.set_cons_succ, i64_w, i32_w]
         rfl
       refine pure_ (i := 27) (N := some 140) (v := ?_) (a' := ?_) #[true, true, true, true, true, true, true, true, true, true, true, true, true, true, true, true, true, true, true, true, true, true, true, true, true, true, true, true, false, false, false, false, false, false, false, false, false, false, false, false, false] rfl rfl (any_of HT_.out (by kernel_rfl)) (fun _ _ _ h => h) (Or.inl ⟨by rfl, ?_⟩) ?_ ?_
       rotate_left
       · intro w'
         go_simp
         with_reducible rfl
       rotate_left
       · simp only [Act.put, List.setIfInBounds_toArray, List.set_cons_zero, List.set_cons_succ, i64_w, i32_w]
         rfl
       refine pure_ (i := 28) (N := some 141) (v := ?_) (a' := ?_) #[true, true, true, true, true, true, true, true, true, true, true, true, true, true, true, true, true, true, true, true, true, true, true, true, true, true, true, true, true, false, false, false, false, false, false, false, false, false, false, false, false] rfl rfl (any_of HT_.out (by kernel_rfl)) (fun _ _ _ h => h) (Or.inl ⟨by rfl, ?_⟩) ?_ ?_
       rotate_left
       · intro w'
         go_simp
         with_reducible rfl
       rotate_left
       · simp only [Act.put, List.setIfInBounds_toArray, List.set_cons_zero, List.set_cons_succ, i64_w, i32_w]
         rfl
       refine pure_ (i := 30) (N := some 143) (v := ?_) (a' := ?_) #[true, true, true, true, true, true, true, true, true, true, true, true, true, true, true, true, true, true, true, true, true, true, true, true, true, true, true, true, true, false, true, false, false, false, false, false, false, false, false, false, false] rfl rfl (any_of HT_.out (by kernel_rfl)) (fun _ _ _ h => h) (Or.inl ⟨by rfl, ?_⟩) ?_ ?_
       rotate_left
       · intro w'
         go_simp
         with_reducible rfl
       rotate_left
       · simp only [Act.put, List.setIfInBounds_toArray, List.set_cons_zero, List.set_cons_succ, i64_w, i32_w]
         rfl
       refine pure_ (i := 32) (N := some 145) (v := ?_) (a' := ?_) #[true, true, true, true, true, true, true, true, true, true, true, true, true, true, true, true, true, true, true, true, true, true, true, true, true, true, true, true, true, false, true, false, true, false, false, false, false, false, false, false, false] rfl rfl (any_of HT_.out (by kernel_rfl)) (fun _ _ _ h => h) (Or.inl ⟨by rfl, ?_⟩) ?_ ?_
       rotate_left
       · intro w'
         go_simp
         with_reducible rfl
       rotate_left
       · simp only [Act.put, List.setIfInBounds_toArray, List.set_cons_zero, List.set_cons_succ, i64_w, i32_w]
         rfl
       refine pure_ (i := 34) (N := some 147) (v := ?_) (a' := ?_) #[true, true, true, true, true, true, true, true, true, true, true, true, true, true, true, true, true, true, true, true, true, true, true, true, true, true, true, true, true, false, true, false, true, false, true, false, false, false, false, false, false] rfl rfl (any_of HT_.out (by kernel_rfl)) (fun _ _ _ h => h) (Or.inl ⟨by rfl, ?_⟩) ?_ ?_
       rotate_left
       · intro w'
         go_simp
         with_reducible rfl
       rotate_left
       · simp only [Act.put, List.setIfInBounds_toArray, List.set_cons_zero, List.set_cons_succ, i64_w, i32_w]
         rfl
       refine pure_ (i := 37) (N := some 150) (v := ?_) (a' := ?_) #[true, true, true, true, true, true, true, true, true, true, true, true, true, true, true, true, true, true, true, true, true, true, true, true, true, true, true, true, true, false, true, false, true, false, true, false, false, true, false, false, false] rfl rfl (any_of HT_.out (by kernel_rfl)) (fun _ _ _ h => h) (Or.inl ⟨by rfl, ?_⟩) ?_ ?_
       rotate_left
       · intro w'
         go_simp
         with_reducible rfl
       rotate_left
       · simp only [Act.put, List.setIfInBounds_toArray, List.set_cons_zero, List.set_cons_succ, i64_w, i32_w]
         rfl
       refine take_ (i := 29) (N := some 142) (v := ?_) (a' := ?_) #[true, true, true, true, true, true, true, true, true, true, true, true, true, true, true, true, true, true, true, true, true, true, true, true, true, true, true, true, true, true, true, false, true, false, true, false, false, true, false, false, false] rfl rfl (take_ofW HT_.out HW_.out (by kernel_rfl)) (fun _ _ _ h => h) (Or.inl ⟨by rfl, ?_⟩) hHeld ?_ ?_
       rotate_left
       · rintro w' ⟨s0, s1, s2, s3, s4, s5, s6⟩
         go_simp
         with_reducible rfl
       rotate_left
       · simp only [Act.put, List.setIfInBounds_toArray, List.set_cons_zero, List.set_cons_succ, i64_w, i32_w]
         rfl
       refine take_ (i := 31) (N := some 144) (v := ?_) (a' := ?_) #[true, true, true, true, true, true, true, true, true, true, true, true, true, true, true, true, true, true, true, true, true, true, true, true, true, true, true, true, true, true, true, true, true, false, true, false, false, true, false, false, false] rfl rfl (take_ofW HT_.out HW_.out (by kernel_rfl)) (fun _ _ _ h => h) (Or.inl ⟨by rfl, ?_⟩) hHeld ?_ ?_
       rotate_left
       · rintro w' ⟨s0, s1, s2, s3, s4, s5, s6⟩
         go_simp
         with_reducible rfl
       rotate_left
       · simp only [Act.put, List.setIfInBounds_toArray, List.set_cons_zero, List.set_cons_succ, i64_w, i32_w]
         rfl
       refine take_ (i := 33) (N := some 146) (v := ?_) (a' := ?_) #[true, true, true, true, true, true, true, true, true, true, true, true, true, true, true, true, true, true, true, true, true, true, true, true, true, true, true, true, true, true, true, true, true, true, true, false, false, true, false, false, false] rfl rfl (take_ofW HT_.out HW_.out (by kernel_rfl)) (fun _ _ _ h => h) (Or.inl ⟨by rfl, ?_⟩) hHeld ?_ ?_
       rotate_left
       · rintro w' ⟨s0, s1, s2, s3, s4, s5, s6⟩
         go_simp
         with_reducible rfl
       rotate_left
       · simp only [Act.put, List.setIfInBounds_toArray, List.set_cons_zero, List.set_cons_succ, i64_w, i32_w]
         rfl
       refine take_ (i := 35) (N := some 148) (v := ?_) (a' := ?_) #[true, true, true, true, true, true, true, true, true, true, true, true, true, true, true, true, true, true, true, true, true, true, true, true, true, true, true, true, true, true, true, true, true, true, true, true, false, true, false, false, false] rfl rfl (take_ofW HT_.out HW_.out (by kernel_rfl)) (fun _ _ _ h => h) (Or.inl ⟨by rfl, ?_⟩) hHeld ?_ ?_
       rotate_left
       · rintro w' ⟨s0, s1, s2, s3, s4, s5, s6⟩
         go_simp
         with_reducible rfl
       rotate_left
       · simp only [Act.put, List.setIfInBounds_toArray, List.set_cons_zero, List.set_cons_succ, i64_w, i32_w]
         rfl
       refine take_ (i := 38) (N := some 151) (v := ?_) (a' := ?_) #[true, true, true, true, true, true, true, true, true, true, true, true, true, true, true, true, true, true, true, true, true, true, true, true, true, true, true, true, true, true, true, true, true, true, true, true, false, true, true, false, false] rfl rfl (take_ofW HT_.out HW_.out (by kernel_rfl)) (fun _ _ _ h => h) (Or.inl ⟨by rfl, ?_⟩) hHeld ?_ ?_
       rotate_left
       · rintro w' ⟨s0, s1, s2, s3, s4, s5, s6⟩
         go_simp
         with_reducible rfl
       rotate_left
       · simp only [Act.put, List.setIfInBounds_toArray, List.set_cons_zero, List.set_cons_succ, i64_w, i32_w]
         rfl
       refine one_ (i := 36) (N := some 149) #[true, true, true, true, true, true, true, true, true, true, true, true, true, true, true, true, true, true, true, true, true, true, true, true, true, true, true, true, true, true, true, true, true, true, true, true, true, true, true, false, false] rfl rfl (one_of HT_.out (by kernel_rfl)) (by decide) (fun K hK => ?_)
       refine goes_ Try.func18 (by kernel_rfl) rfl #[.pointer (some ⟨S, 0, none⟩), .int .i64 nd.f0, .int .i64 nd.f1, .int .i64 nd.f2] (by rfl) rfl rfl (by (try simp only [List.map_toArray, List.map_cons, List.map_nil]); first | done | rfl) ?_
       refine (M.out.node HND.out).mono ?_
       rintro e wz ⟨rfl, hm, hb, hk⟩
       refine ⟨_, rfl, ?_⟩
       have HMZ := Aside0.mk hm
       have HLZ := Aside0.mk (LB.out.trans hb)
       have Zb7 := Aside0.mk (hk _ _ Xb7.out Fb7.out)
       have Zb8 := Aside0.mk (hk _ _ Xb8.out Fb8.out)
       have Zb10 := Aside0.mk (hk _ _ Xb10.out Fb10.out)
       have Zb12 := Aside0.mk (hk _ _ Xb12.out Fb12.out)
       clear hm hb hk
       refine hK.out _ _ ⟨HMZ.out.c0, (blk_cell Zb7.out 0).trans rfl, (blk_cell Zb8.out 0).trans rfl, (blk_cell Zb8.out 1).trans rfl, (blk_cell Zb8.out 2).trans rfl, (blk_cell Zb10.out 0).trans rfl, (blk_cell Zb12.out 0).trans rfl⟩ (fun hHeld => ?_)
       clear hK K
       refine norm_ (a' := ?_) ?_ ?_
       rotate_left
       · show Act.put _ (some 149) _ = _
         simp only [Act.put, List.setIfInBounds_toArray, List.set_cons_zero, List.set_cons_succ, i64_w, i32_w]
         rfl
       refine pure_ (i := 39) (N := some 152) (v := ?_) (a' := ?_) #[true, true, true, true, true, true, true, true, true, true, true, true, true, true, true, true, true, true, true, true, true, true, true, true, true, true, true, true, true, true, true, true, true, true, true, true, true, true, true, true, false] rfl rfl (any_of HT_.out (by kernel_rfl)) (fun _ _ _ h => h) (Or.inl ⟨by rfl, ?_⟩) ?_ ?_
       rotate_left
       · intro w'
         go_simp
         with_reducible rfl
       rotate_left
       · simp only [Act.put, List.setIfInBounds_toArray, List.set_cons_zero, List.set_cons_succ, i64_w, i32_w]
         rfl
       refine pure_ (i := 40) (N := some 153) (v := ?_) (a' := ?_) #[true, true, true, true, true, true, true, true, true, true, true, true, true, true, true, true, true, true, true, true, true, true, true, true, true, true, true, true, true, true, true, true, true, true, true, true, true, true, true, true, true] rfl rfl (any_of HT_.out (by kernel_rfl)) (fun _ _ _ h => h) (Or.inl ⟨by rfl, ?_⟩) ?_ ?_
       rotate_left
       · intro w'
         go_simp
         with_reducible rfl
       rotate_left
       · simp only [Act.put, List.setIfInBounds_toArray, List.set_cons_zero, List.set_cons_succ, i64_w, i32_w]
         rfl
       refine done_ (done_of HT_.out (by kernel_rfl)) ?_
       clear hHeld
       go_wp2
       go_roundw
       case measure => simp [intOf]; omega
       case rel => exact ⟨i + 1, rfl, ⟨by omega⟩, HMZ, HLZ⟩
     | true =>
      have dy := HQ1.out rfl
      cases zb with
      | false =>
       as_aux_lemma =>
       have dz := HQ2.out
       clear dz
       refine start_ (n := 41) (S := fun w' => w'.cell? ⟨G, 0, none⟩ = some (.pointer (some ⟨S, 0, none⟩)) ∧ w'.cell? ⟨b7, 0, none⟩ = some (.int .i64 x) ∧ w'.cell? ⟨b8, 0, none⟩ = some (.int .i64 nd.f0) ∧ w'.cell? ⟨b8, 1, none⟩ = some (.int .i64 nd.f1) ∧ w'.cell? ⟨b8, 2, none⟩ = some (.int .i64 nd.f2) ∧ w'.cell? ⟨b10, 0, none⟩ = some (.int .i64 (atN ns nd.f1).f0) ∧ w'.cell? ⟨b12, 0, none⟩ = some (.int .i64 (atN ns nd.f2).f0)) (ds := []) #[false, false, false, false, false, false, false, false, false, false, false, false, false, false, false, false, false, false, false, false, false, false, false, false, false, false, false, false, false, false, false, false, false, false, false, false, false, false, false, false, false] (by kernel_rfl) rfl rfl ⟨M.out.c0, (blk_cell Xb7.out 0).trans rfl, (blk_cell Xb8.out 0).trans rfl, (blk_cell Xb8.out 1).trans rfl, (blk_cell Xb8.out 2).trans rfl, (blk_cell Xb10.out 0).trans rfl, (blk_cell Xb12.out 0).trans rfl⟩ (fun hHeld => ?_)
       refine with_tabW quest.tab17 quest.bits17 (fun HT_ HW_ => ?_)
       refine pure_ (i := 0) (N := some 113) (v := ?_) (a' := ?_) #[true, false, false, false, false, false, false, false, false, false, false, false, false, false, false, false, false, false, false, false, false, false, false, false, false, false, false, false, false, false, false, false, false, false, false, false, false, false, false, false, false] rfl rfl (any_of HT_.out (by kernel_rfl)) (fun _ _ _ h => h) (Or.inl ⟨by rfl, ?_⟩) ?_ ?_
       rotate_left
       · intro w'
         go_simp
         with_reducible rfl
       rotate_left
       · simp only [Act.put, List.setIfInBounds_toArray, List.set_cons_zero, List.set_cons_succ, i64_w, i32_w]
         rfl
       refine pure_ (i := 2) (N := some 115) (v := ?_) (a' := ?_) #[true, false, true, false, false, false, false, false, false, false, false, false, false, false, false, false, false, false, false, false, false, false, false, false, false, false, false, false, false, false, false, false, false, false, false, false, false, false, false, false, false] rfl rfl (any_of HT_.out (by kernel_rfl)) (fun _ _ _ h => h) (Or.inl ⟨by rfl, ?_⟩) ?_ ?_
       rotate_left
       · intro w'
         go_simp
         with_reducible rfl
       rotate_left
       · simp only [Act.put, List.setIfInBounds_toArray, List.set_cons_zero, List.set_cons_succ, i64_w, i32_w]
         rfl
       refine take_ (i := 1) (N := some 114) (v := ?_) (a' := ?_) #[true, true, true, false, false, false, false, false, false, false, false, false, false, false, false, false, false, false, false, false, false, false, false, false, false, false, false, false, false, false, false, false, false, false, false, false, false, false, false, false, false] rfl rfl (take_ofW HT_.out HW_.out (by kernel_rfl)) (fun _ _ _ h => h) (Or.inl ⟨by rfl, ?_⟩) hHeld ?_ ?_
       rotate_left
       · rintro w' ⟨s0, s1, s2, s3, s4, s5, s6⟩
         go_simp
         with_reducible rfl
       rotate_left
       · simp only [Act.put, List.setIfInBounds_toArray, List.set_cons_zero, List.set_cons_succ, i64_w, i32_w]
         rfl
       refine take_ (i := 3) (N := some 116) (v := ?_) (a' := ?_) #[true, true, true, true, false, false, false, false, false, false, false, false, false, false, false, false, false, false, false, false, false, false, false, false, false, false, false, false, false, false, false, false, false, false, false, false, false, false, false, false, false] rfl rfl (take_ofW HT_.out HW_.out (by kernel_rfl)) (fun _ _ _ h => h) (Or.inl ⟨by rfl, ?_⟩) hHeld ?_ ?_
       rotate_left
       · rintro w' ⟨s0, s1, s2, s3, s4, s5, s6⟩
         go_simp
         with_reducible rfl
       rotate_left
       · simp only [Act.put, List.setIfInBounds_toArray, List.set_cons_zero, List.set_cons_succ, i64_w, i32_w]
         rfl
       refine pure_ (i := 4) (N := some 117) (v := ?_) (a' := ?_) #[true, true, true, true, true, false, false, false, false, false, false, false, false, false, false, false, false, false, false, false, false, false, false, false, false, false, false, false, false, false, false, false, false, false, false, false, false, false, false, false, false] rfl rfl (any_of HT_.out (by kernel_rfl)) (fun _ _ _ h => h) (Or.inl ⟨by rfl, ?_⟩) ?_ ?_
       rotate_left
       · intro w'
         go_simp
         with_reducible rfl
       rotate_left
       · simp only [Act.put, List.setIfInBounds_toArray, List.set_cons_zero, List.set_cons_succ, i64_w, i32_w]
         rfl
       refine pure_ (i := 5) (N := some 118) (v := ?_) (a' := ?_) #[true, true, true, true, true, true, false, false, false, false, false, false, false, false, false, false, false, false, false, false, false, false, false, false, false, false, false, false, false, false, false, false, false, false, false, false, false, false, false, false, false] rfl rfl (any_of HT_.out (by kernel_rfl)) (fun _ _ _ h => h) (Or.inl ⟨by rfl, ?_⟩) ?_ ?_
       rotate_left
       · intro w'
         go_simp
         with_reducible rfl
       rotate_left
       · simp only [Act.put, List.setIfInBounds_toArray, List.set_cons_zero, List.set_cons_succ, i64_w, i32_w]
         rfl
       refine pure_ (i := 6) (N := some 119) (v := ?_) (a' := ?_) #[true, true, true, true, true, true, true, false, false, false, false, false, false, false, false, false, false, false, false, false, false, false, false, false, false, false, false, false, false, false, false, false, false, false, false, false, false, false, false, false, false] rfl rfl (any_of HT_.out (by kernel_rfl)) (fun _ _ _ h => h) (Or.inl ⟨by rfl, ?_⟩) ?_ ?_
       rotate_left
       · intro w'
         go_simp
         with_reducible rfl
       rotate_left
       · simp only [Act.put, List.setIfInBounds_toArray, List.set_cons_zero, List.set_cons_succ, i64_w, i32_w]
         rfl
       refine pure_ (i := 7) (N := some 120) (v := ?_) (a' := ?_) #[true, true, true, true, true, true, true, true, false, false, false, false, false, false, false, false, false, false, false, false, false, false, false, false, false, false, false, false, false, false, false, false, false, false, false, false, false, false, false, false, false] rfl rfl (any_of HT_.out (by kernel_rfl)) (fun _ _ _ h => h) (Or.inl ⟨by rfl, ?_⟩) ?_ ?_
       rotate_left
       · intro w'
         go_simp
         with_reducible rfl
       rotate_left
       · simp only [Act.put, List.setIfInBounds_toArray, List.set_cons_zero, List.set_cons_succ, i64_w, i32_w]
         rfl
       refine pure_ (i := 8) (N := some 121) (v := ?_) (a' := ?_) #[true, true, true, true, true, true, true, true, true, false, false, false, false, false, false, false, false, false, false, false, false, false, false, false, false, false, false, false, false, false, false, false, false, false, false, false, false, false, false, false, false] rfl rfl (any_of HT_.out (by kernel_rfl)) (fun _ _ _ h => h) (Or.inl ⟨by rfl, ?_⟩) ?_ ?_
       rotate_left
       · intro w'
         go_simp
         with_reducible rfl
       rotate_left
       · simp only [Act.put, List.setIfInBounds_toArray, List.set_cons_zero, List.set_cons_succ, i64_w, i32_w]
         rfl
       refine pure_ (i := 10) (N := some 123) (v := ?_) (a' := ?_) #[true, true, true, true, true, true, true, true, true, false, true, false, false, false, false, false, false, false, false, false, false, false, false, false, false, false, false, false, false, false, false, false, false, false, false, false, false, false, false, false, false] rfl rfl (any_of HT_.out (by kernel_rfl)) (fun _ _ _ h => h) (Or.inl ⟨by rfl, ?_⟩) ?_ ?_
       rotate_left
       · intro w'
         go_simp
         with_reducible rfl
       rotate_left
       · simp only [Act.put, List.setIfInBounds_toArray, List.set_cons_zero, List.set_cons_succ, i64_w, i32_w]
         rfl
       refine take_ (i := 9) (N := some 122) (v := ?_) (a' := ?_) #[true, true, true, true, true, true, true, true, true, true, true, false, false, false, false, false, false, false, false, false, false, false, false, false, false, false, false, false, false, false, false, false, false, false, false, false, false, false, false, false, false] rfl rfl (take_ofW HT_.out HW_.out (by kernel_rfl)) (fun _ _ _ h => h) (Or.inl ⟨by rfl, ?_⟩) hHeld ?_ ?_
       rotate_left
       · rintro w' ⟨s0, s1, s2, s3, s4, s5, s6⟩
         go_simp
         with_reducible rfl
       rotate_left
       · simp only [Act.put, List.setIfInBounds_toArray, List.set_cons_zero, List.set_cons_succ, i64_w, i32_w]
         rfl
       refine take_ (i := 11) (N := some 124) (v := ?_) (a' := ?_) #[true, true, true, true, true, true, true, true, true, true, true, true, false, false, false, false, false, false, false, false, false, false, false, false, false, false, false, false, false, false, false, false, false, false, false, false, false, false, false, false, false] rfl rfl (take_ofW HT_.out HW_.out (by kernel_rfl)) (fun _ _ _ h => h) (Or.inl ⟨by rfl, ?_⟩) hHeld ?_ ?_
       rotate_left
       · rintro w' ⟨s0, s1, s2, s3, s4, s5, s6⟩
         go_simp
         with_reducible rfl
       rotate_left
       · simp only [Act.put, List.setIfInBounds_toArray, List.set_cons_zero, List.set_cons_succ, i64_w, i32_w]
         rfl
       refine pure_ (i := 12) (N := some 125) (v := ?_) (a' := ?_) #[true, true, true, true, true, true, true, true, true, true, true, true, true, false, false, false, false, false, false, false, false, false, false, false, false, false, false, false, false, false, false, false, false, false, false, false, false, false, false, false, false] rfl rfl (any_of HT_.out (by kernel_rfl)) (fun _ _ _ h => h) (Or.inl ⟨by rfl, ?_⟩) ?_ ?_
       rotate_left
       · intro w'
         go_simp
         with_reducible rfl
       rotate_left
       · simp only [Act.put, List.setIfInBounds_toArray, List.set_cons_zero, List.set_cons_succ, i64_w, i32_w]
         rfl
       refine pure_ (i := 13) (N := some 126) (v := ?_) (a' := ?_) #[true, true, true, true, true, true, true, true, true, true, true, true, true, true, false, false, false, false, false, false, false, false, false, false, false, false, false, false, false, false, false, false, false, false, false, false, false, false, false, false, false] rfl rfl (any_of HT_.out (by kernel_rfl)) (fun _ _ _ h => h) (Or.inl ⟨by rfl, ?_⟩) ?_ ?_
       rotate_left
       · intro w'
         go_simp
         with_reducible rfl
       rotate_left
       · simp only [Act.put, List.setIfInBounds_toArray, List.set_cons_zero, List.set_cons_succ, i64_w, i32_w]
         rfl
       refine pure_ (i := 14) (N := some 127) (v := ?_) (a' := ?_) #[true, true, true, true, true, true, true, true, true, true, true, true, true, true, true, false, false, false, false, false, false, false, false, false, false, false, false, false, false, false, false, false, false, false, false, false, false, false, false, false, false] rfl rfl (any_of HT_.out (by kernel_rfl)) (fun _ _ _ h => h) (Or.inl ⟨by rfl, ?_⟩) ?_ ?_
       rotate_left
       · intro w'
         go_simp
         with_reducible rfl
       rotate_left
       · simp only [Act.put, List.setIfInBounds_toArray, List.set_cons_zero, List.set_cons_succ, i64_w, i32_w]
         rfl
       refine pure_ (i := 15) (N := some 128) (v := ?_) (a' := ?_) #[true, true, true, true, true, true, true, true, true, true, true, true, true, true, true, true, false, false, false, false, false, false, false, false, false, false, false, false, false, false, false, false, false, false, false, false, false, false, false, false, false] rfl rfl (any_of HT_.out (by kernel_rfl)) (fun _ _ _ h => h) (Or.inl ⟨by rfl, ?_⟩) ?_ ?_
       rotate_left
       · intro w'
         go_simp
         with_reducible rfl
       rotate_left
       · simp only [Act.put, List.setIfInBounds_toArray, List.set_cons_zero, List.set_cons_succ, i64_w, i32_w]
         rfl
       refine pure_ (i := 16) (N := some 129) (v := ?_) (a' := ?_) #[true, true, true, true, true, true, true, true, true, true, true, true, true, true, true, true, true, false, false, false, false, false, false, false, false, false, false, false, false, false, false, false, false, false, false, false, false, false, false, false, false] rfl rfl (any_of HT_.out (by kernel_rfl)) (fun _ _ _ h => h) (Or.inl ⟨by rfl, ?_⟩) ?_ ?_
       rotate_left
       · intro w'
         go_simp
         with_reducible rfl
       rotate_left
       · simp only [Act.put, List.setIfInBounds_toArray, List.set_cons_zero, List.set_cons_succ, i64_w, i32_w]
         rfl
       refine pure_ (i := 17) (N := some 130) (v := ?_) (a' := ?_) #[true, true, true, true, true, true, true, true, true, true, true, true, true, true, true, true, true, true, false, false, false, false, false, false, false, false, false, false, false, false, false, false, false, false, false, false, false, false, false, false, false] rfl rfl (any_of HT_.out (by kernel_rfl)) (fun _ _ _ h => h) (Or.inl ⟨by rfl, ?_⟩) ?_ ?_
       rotate_left
       · intro w'
         go_simp
         with_reducible rfl
       rotate_left
       · simp only [Act.put, List.setIfInBounds_toArray, List.set_cons_zero, List.set_cons_succ, i64_w, i32_w]
         rfl
       refine pure_ (i := 18) (N := some 131) (v := undef) (a' := ?_) #[true, true, true, true, true, true, true, true, true, true, true, true, true, true, true, true, true, true, true, false, false, false, false, false, false, false, false, false, false, false, false, false, false, false, false, false, false, false, false, false, false] rfl rfl (any_of HT_.out (by kernel_rfl)) (fun _ _ _ h => h) (Or.inr ⟨by rfl, rfl⟩) ?_ ?_
       rotate_left
       · simp only [Act.put, List.setIfInBounds_toArray, List.set_cons_zero, List.set_cons_succ, i64_w, i32_w]
         rfl
       refine pure_ (i := 19) (N := some 132) (v := undef) (a' := ?_) #[true, true, true, true, true, true, true, true, true, true, true, true, true, true, true, true, true, true, true, true, false, false, false, false, false, false, false, false, false, false, false, false, false, false, false, false, false, false, false, false, false] rfl rfl (any_of HT_.out (by kernel_rfl)) (fun _ _ _ h => h) (Or.inr ⟨by rfl, rfl⟩) ?_ ?_
       rotate_left
       · simp only [Act.put, List.setIfInBounds_toArray, List.set_cons_zero, List.set_cons_succ, i64_w, i32_w]
         rfl
       refine pure_ (i := 20) (N := some 133) (v := undef) (a' := ?_) #[true, true, true, true, true, true, true, true, true, true, true, true, true, true, true, true, true, true, true, true, true, false, false, false, false, false, false, false, false, false, false, false, false, false, false, false, false, false, false, false, false] rfl rfl (any_of HT_.out (by kernel_rfl)) (fun _ _ _ h => h) (Or.inr ⟨by rfl, rfl⟩) ?_ ?_
       rotate_left
       · simp only [Act.put, List.setIfInBounds_toArray, List.set_cons_zero, List.set_cons_succ, i64_w, i32_w]
         rfl
       refine pure_ (i := 21) (N := some 134) (v := undef) (a' := ?_) #[true, true, true, true, true, true, true, true, true, true, true, true, true, true, true, true, true, true, true, true, true, true, false, false, false, false, false, false, false, false, false, false, false, false, false, false, false, false, false, false, false] rfl rfl (any_of HT_.out (by kernel_rfl)) (fun _ _ _ h => h) (Or.inr ⟨by rfl, rfl⟩) ?_ ?_
       rotate_left
       · simp only [Act.put, List.setIfInBounds_toArray, List.set_cons_zero, List.set_cons_succ, i64_w, i32_w]
         rfl
       refine pure_ (i := 22) (N := some 135) (v := undef) (a' := ?_) #[true, true, true, true, true, true, true, true, true, true, true, true, true, true, true, true, true, true, true, true, true, true, true, false, false, false, false, false, false, false, false, false, false, false, false, false, false, false, false, false, false] rfl rfl (any_of HT_.out (by kernel_rfl)) (fun _ _ _ h => h) (Or.inr ⟨by rfl, rfl⟩) ?_ ?_
       rotate_left
       · simp only [Act.put, List.setIfInBounds_toArray, List.set_cons_zero, List.set_cons_succ, i64_w, i32_w]
         rfl
       refine pure_ (i := 23) (N := some 136) (v := ?_) (a' := ?_) #[true, true, true, true, true, true, true, true, true, true, true, true, true, true, true, true, true, true, true, true, true, true, true, true, false, false, false, false, false, false, false, false, false, false, false, false, false, false, false, false, false] rfl rfl (any_of HT_.out (by kernel_rfl)) (fun _ _ _ h => h) (Or.inl ⟨by rfl, ?_⟩) ?_ ?_
       rotate_left
       · intro w'
         go_simp
         with_reducible rfl
       rotate_left
       · simp only [Act.put, List.setIfInBounds_toArray, List.set_cons_zero, List.set_cons_succ, i64_w, i32_w]
         rfl
       refine pure_ (i := 24) (N := some 137) (v := ?_) (a' := ?_) #[true, true, true, true, true, true, true, true, true, true, true, true, true, true, true, true, true, true, true, true, true, true, true, true, true, false, false, false, false, false, false, false, false, false, false, false, false, false, false, false, false] rfl rfl (any_of HT_.out (by kernel_rfl)) (fun _ _ _ h => h) (Or.inl ⟨by rfl, ?_⟩) ?_ ?_
       rotate_left
       · intro w'
         go_simp
         with_reducible rfl
       rotate_left
       · simp only [Act.put, List.setIfInBounds_toArray, List.set_cons_zero, List.set_cons_succ, i64_w, i32_w]
         rfl
       refine pure_ (i := 25) (N := some 138) (v := ?_) (a' := ?_) #[true, true, true, true, true, true, true, true, true, true, true, true, true, true, true, true, true, true, true, true, true, true, true, true, true, true, false, false, false, false, false, false, false, false, false, false, false, false, false, false, false] rfl rfl (any_of HT_.out (by kernel_rfl)) (fun _ _ _ h => h) (Or.inl ⟨by rfl, ?_⟩) ?_ ?_
       rotate_left
       · intro w'
         go_simp
         with_reducible rfl
       rotate_left
       · simp only [Act.put, List.setIfInBounds_toArray, List.set_cons_zero, List.set_cons_succ, i64_w, i32_w]
         rfl
       refine pure_ (i := 26) (N := some 139) (v := ?_) (a' := ?_) #[true, true, true, true, true, true, true, true, true, true, true, true, true, true, true, true, true, true, true, true, true, true, true, true, true, true, true, false, false, false, false, false, false, false, false, false, false, false, false, false, false] rfl rfl (any_of HT_.out (by kernel_rfl)) (fun _ _ _ h => h) (Or.inl ⟨by rfl, ?_⟩) ?_ ?_
       rotate_left
       · intro w'
         go_simp
         with_reducible rfl
       rotate_left
       · simp only [Act.put, List.setIfInBounds_toArray, List.set_cons_zero, List.set_cons_succ, i64_w, i32_w]
         rfl
       refine pure_ (i := 27) (N := some 140) (v := ?_) (a' := ?_) #[true, true, true, true, true, true, true, true, true, true, true, true, true, true, true, true, true, true, true, true, true, true, true, true, true, true, true, true, false, false, false, false, false, false, false, false, false, false, false, false, false] rfl rfl (any_of HT_.out (by kernel_rfl)) (fun _ _ _ h => h) (Or.inl ⟨by rfl, ?_⟩) ?_ ?_
       rotate_left
       · intro w'
         go_simp
         with_reducible rfl
       rotate_left
       · simp only [Act.put, List.setIfInBounds_toArray, List.set_cons_zero, List.set_cons_succ, i64_w, i32_w]
         rfl
       refine pure_ (i := 28) (N := some 141) (v := ?_) (a' := ?_) #[true, true, true, true, true, true, true, true, true, true, true, true, true, true, true, true, true, true, true, true, true, true, true, true, true, true, true, true, true, false, false, false, false, false, false, false, false, false, false, false, false] rfl rfl (any_of HT_.out (by kernel_rfl)) (fun _ _ _ h => h) (Or.inl ⟨by rfl, ?_⟩) ?_ ?_
       rotate_left
       · intro w'
         go_simp
         with_reducible rfl
       rotate_left
       · simp only [Act.put, List.setIfInBounds_toArray, List.set_cons_zero, List.set_cons_succ, i64_w, i32_w]
         rfl
       refine pure_ (i := 30) (N := some 143) (v := ?_) (a' := ?_) #[true, true, true, true, true, true, true, true, true, true, true, true, true, true, true, true, true, true, true, true, true, true, true, true, true, true, true, true, true, false, true, false, false, false, false, false, false, false, false, false, false] rfl rfl (any_of HT_.out (by kernel_rfl)) (fun _ _ _ h => h) (Or.inl ⟨by rfl, ?_⟩) ?_ ?_
       rotate_left
       · intro w'
         go_simp
         with_reducible rfl
       rotate_left
       · simp only [Act.put, List.setIfInBounds_toArray, List.set_cons_zero, List.set_cons_succ, i64_w, i32_w]
         rfl
       refine pure_ (i := 32) (N := some 145) (v := ?_) (a' := ?_) #[true, true, true, true, true, true, true, true, true, true, true, true, true, true, true, true, true, true, true, true, true, true, true, true, true, true, true, true, true, false, true, false, true, false, false, false, false, false, false, false, false] rfl rfl (any_of HT_.out (by kernel_rfl)) (fun _ _ _ h => h) (Or.inl ⟨by rfl, ?_⟩) ?_ ?_
       rotate_left
       · intro w'
         go_simp
         with_reducible rfl
       rotate_left
       · simp only [Act.put, List.setIfInBounds_toArray, List.set_cons_zero, List.set_cons_succ, i64_w, i32_w]
         rfl
       refine pure_ (i := 34) (N := some 147) (v := ?_) (a' := ?_) #[true, true, true, true, true, true, true, true, true, true, true, true, true, true, true, true, true, true, true, true, true, true, true, true, true, true, true, true, true, false, true, false, true, false, true, false, false, false, false, false, false] rfl rfl (any_of HT_.out (by kernel_rfl)) (fun _ _ _ h => h) (Or.inl ⟨by rfl, ?_⟩) ?_ ?_
       rotate_left
       · intro w'
         go_simp
         with_reducible rfl
       rotate_left
       · simp only [Act.put, List.setIfInBounds_toArray, List.set_cons_zero, List.set_cons_succ, i64_w, i32_w]
         rfl
       refine pure_ (i := 37) (N := some 150) (v := ?_) (a' := ?_) #[true, true, true, true, true, true, true, true, true, true, true, true, true, true, true, true, true, true, true, true, true, true, true, true, true, true, true, true, true, false, true, false, true, false, true, false, false, true, false, false, false] rfl rfl (any_of HT_.out (by kernel_rfl)) (fun _ _ _ h => h) (Or.inl ⟨by rfl, ?_⟩) ?_ ?_
       rotate_left
       · intro w'
         go_simp
         with_reducible rfl
       rotate_left
       · simp only [Act.put, List.setIfInBounds_toArray, List.set_cons_zero, List.set_cons_succ, i64_w, i32_w]
         rfl
       refine take_ (i := 29) (N := some 142) (v := ?_) (a' := ?_) #[true, true, true, true, true, true, true, true, true, true, true, true, true, true, true, true, true, true, true, true, true, true, true, true, true, true, true, true, true, true, true, false, true, false, true, false, false, true, false, false, false] rfl rfl (take_ofW HT_.out HW_.out (by kernel_rfl)) (fun _ _ _ h => h) (Or.inl ⟨by rfl, ?_⟩) hHeld ?_ ?_
       rotate_left
       · rintro w' ⟨s0, s1, s2, s3, s4, s5, s6⟩
         go_simp
         with_reducible rfl
       rotate_left
       · simp only [Act.put, List.setIfInBounds_toArray, List.set_cons_zero, List.set_cons_succ, i64_w, i32_w]
         rfl
       refine take_ (i := 31) (N := some 144) (v := ?_) (a' := ?_) #[true, true, true, true, true, true, true, true, true, true, true, true, true, true, true, true, true, true, true, true, true, true, true, true, true, true, true, true, true, true, true, true, true, false, true, false, false, true, false, false, false] rfl rfl (take_ofW HT_.out HW_.out (by kernel_rfl)) (fun _ _ _ h => h) (Or.inl ⟨by rfl, ?_⟩) hHeld ?_ ?_
       rotate_left
       · rintro w' ⟨s0, s1, s2, s3, s4, s5, s6⟩
         go_simp
         with_reducible rfl
       rotate_left
       · simp only [Act.put, List.setIfInBounds_toArray, List.set_cons_zero, List.set_cons_succ, i64_w, i32_w]
         rfl
       refine take_ (i := 33) (N := some 146) (v := ?_) (a' := ?_) #[true, true, true, true, true, true, true, true, true, true, true, true, true, true, true, true, true, true, true, true, true, true, true, true, true, true, true, true, true, true, true, true, true, true, true, false, false, true, false, false, false] rfl rfl (take_ofW HT_.out HW_.out (by kernel_rfl)) (fun _ _ _ h => h) (Or.inl ⟨by rfl, ?_⟩) hHeld ?_ ?_
       rotate_left
       · rintro w' ⟨s0, s1, s2, s3, s4, s5, s6⟩
         go_simp
         with_reducible rfl
       rotate_left
       · simp only [Act.put, List.setIfInBounds_toArray, List.set_cons_zero, List.set_cons_succ, i64_w, i32_w]
         rfl
       refine take_ (i := 35) (N := some 148) (v := ?_) (a' := ?_) #[true, true, true, true, true, true, true, true, true, true, true, true, true, true, true, true, true, true, true, true, true, true, true, true, true, true, true, true, true, true, true, true, true, true, true, true, false, true, false, false, false] rfl rfl (take_ofW HT_.out HW_.out (by kernel_rfl)) (fun _ _ _ h => h) (Or.inl ⟨by rfl, ?_⟩) hHeld ?_ ?_
       rotate_left
       · rintro w' ⟨s0, s1, s2, s3, s4, s5, s6⟩
         go_simp
         with_reducible rfl
       rotate_left
       · simp only [Act.put, List.setIfInBounds_toArray, List.set_cons_zero, List.set_cons_succ, i64_w, i32_w]
         rfl
       refine take_ (i := 38) (N := some 151) (v := ?_) (a' := ?_) #[true, true, true, true, true, true, true, true, true, true, true, true, true, true, true, true, true, true, true, true, true, true, true, true, true, true, true, true, true, true, true, true, true, true, true, true, false, true, true, false, false] rfl rfl (take_ofW HT_.out HW_.out (by kernel_rfl)) (fun _ _ _ h => h) (Or.inl ⟨by rfl, ?_⟩) hHeld ?_ ?_
       rotate_left
       · rintro w' ⟨s0, s1, s2, s3, s4, s5, s6⟩
         go_simp
         with_reducible rfl
       rotate_left
       · simp only [Act.put, List.setIfInBounds_toArray, List.set_cons_zero, List.set_cons_succ, i64_w, i32_w]
         rfl
       refine one_ (i := 36) (N := some 149) #[true, true, true, true, true, true, true, true, true, true, true, true, true, true, true, true, true, true, true, true, true, true, true, true, true, true, true, true, true, true, true, true, true, true, true, true, true, true, true, false, false] rfl rfl (one_of HT_.out (by kernel_rfl)) (by decide) (fun K hK => ?_)
       refine goes_ Try.func18 (by kernel_rfl) rfl #[.pointer (some ⟨S, 0, none⟩), .int .i64 nd.f0, .int .i64 nd.f1, .int .i64 nd.f2] (by rfl) rfl rfl (by (try simp only [List.map_toArray, List.map_cons, List.map_nil]); first | done | rfl) ?_
       refine (M.out.node HND.out).mono ?_
       rintro e wz ⟨rfl, hm, hb, hk⟩
       refine ⟨_, rfl, ?_⟩
       have HMZ := Aside0.mk hm
       have HLZ := Aside0.mk (LB.out.trans hb)
       have Zb7 := Aside0.mk (hk _ _ Xb7.out Fb7.out)
       have Zb8 := Aside0.mk (hk _ _ Xb8.out Fb8.out)
       have Zb10 := Aside0.mk (hk _ _ Xb10.out Fb10.out)
       have Zb12 := Aside0.mk (hk _ _ Xb12.out Fb12.out)
       clear hm hb hk
       refine hK.out _ _ ⟨HMZ.out.c0, (blk_cell Zb7.out 0).trans rfl, (blk_cell Zb8.out 0).trans rfl, (blk_cell Zb8.out 1).trans rfl, (blk_cell Zb8.out 2).trans rfl, (blk_cell Zb10.out 0).trans rfl, (blk_cell Zb12.out 0).trans rfl⟩ (fun hHeld => ?_)
       clear hK K
       refine norm_ (a' := ?_) ?_ ?_
       rotate_left
       · show Act.put _ (some 149) _ = _
         simp only [Act.put, List.setIfInBounds_toArray, List.set_cons_zero, List.set_cons_succ, i64_w, i32_w]
         rfl
       refine pure_ (i := 39) (N := some 152) (v := ?_) (a' := ?_) #[true, true, true, true, true, true, true, true, true, true, true, true, true, true, true, true, true, true, true, true, true, true, true, true, true, true, true, true, true, true, true, true, true, true, true, true, true, true, true, true, false] rfl rfl (any_of HT_.out (by kernel_rfl)) (fun _ _ _ h => h) (Or.inl ⟨by rfl, ?_⟩) ?_ ?_
       rotate_left
       · intro w'
         go_simp
         with_reducible rfl
       rotate_left
       · simp only [Act.put, List.setIfInBounds_toArray, List.set_cons_zero, List.set_cons_succ, i64_w, i32_w]
         rfl
       refine pure_ (i := 40) (N := some 153) (v := ?_) (a' := ?_) #[true, true, true, true, true, true, true, true, true, true, true, true, true, true, true, true, true, true, true, true, true, true, true, true, true, true, true, true, true, true, true, true, true, true, true, true, true, true, true, true, true] rfl rfl (any_of HT_.out (by kernel_rfl)) (fun _ _ _ h => h) (Or.inl ⟨by rfl, ?_⟩) ?_ ?_
       rotate_left
       · intro w'
         go_simp
         with_reducible rfl
       rotate_left
       · simp only [Act.put, List.setIfInBounds_toArray, List.set_cons_zero, List.set_cons_succ, i64_w, i32_w]
         rfl
       refine done_ (done_of HT_.out (by kernel_rfl)) ?_
       clear hHeld
       go_wp2
       go_roundw
       case measure => simp [intOf]; omega
       case rel => exact ⟨i + 1, rfl, ⟨by omega⟩, HMZ, HLZ⟩
      | true =>
       as_aux_lemma =>
       have dz := HQ2.out rfl
       refine start_ (n := 41) (S := fun w' => w'.cell? ⟨G, 0, none⟩ = some (.pointer (some ⟨S, 0, none⟩)) ∧ w'.cell? ⟨b7, 0, none⟩ = some (.int .i64 x) ∧ w'.cell? ⟨b8, 0, none⟩ = some (.int .i64 nd.f0) ∧ w'.cell? ⟨b8, 1, none⟩ = some (.int .i64 nd.f1) ∧ w'.cell? ⟨b8, 2, none⟩ = some (.int .i64 nd.f2) ∧ w'.cell? ⟨b10, 0, none⟩ = some (.int .i64 (atN ns nd.f1).f0) ∧ w'.cell? ⟨b12, 0, none⟩ = some (.int .i64 (atN ns nd.f2).f0)) (ds := []) #[false, false, false, false, false, false, false, false, false, false, false, false, false, false, false, false, false, false, false, false, false, false, false, false, false, false, false, false, false, false, false, false, false, false, false, false, false, false, false, false, false] (by kernel_rfl) rfl rfl ⟨M.out.c0, (blk_cell Xb7.out 0).trans rfl, (blk_cell Xb8.out 0).trans rfl, (blk_cell Xb8.out 1).trans rfl, (blk_cell Xb8.out 2).trans rfl, (blk_cell Xb10.out 0).trans rfl, (blk_cell Xb12.out 0).trans rfl⟩ (fun hHeld => ?_)
       refine with_tabW quest.tab17 quest.bits17 (fun HT_ HW_ => ?_)
       refine pure_ (i := 0) (N := some 113) (v := ?_) (a' := ?_) #[true, false, false, false, false, false, false, false, false, false, false, false, false, false, false, false, false, false, false, false, false, false, false, false, false, false, false, false, false, false, false, false, false, false, false, false, false, false, false, false, false] rfl rfl (any_of HT_.out (by kernel_rfl)) (fun _ _ _ h => h) (Or.inl ⟨by rfl, ?_⟩) ?_ ?_
       rotate_left
       · intro w'
         go_simp
         with_reducible rfl
       rotate_left
       · simp only [Act.put, List.setIfInBounds_toArray, List.set_cons_zero, List.set_cons_succ, i64_w, i32_w]
         rfl
       refine pure_ (i := 2) (N := some 115) (v := ?_) (a' := ?_) #[true, false, true, false, false, false, false, false, false, false, false, false, false, false, false, false, false, false, false, false, false, false, false, false, false, false, false, false, false, false, false, false, false, false, false, false, false, false, false, false, false] rfl rfl (any_of HT_.out (by kernel_rfl)) (fun _ _ _ h => h) (Or.inl ⟨by rfl, ?_⟩) ?_ ?_
       rotate_left
       · intro w'
         go_simp
         with_reducible rfl
       rotate_left
       · simp only [Act.put, List.setIfInBounds_toArray, List.set_cons_zero, List.set_cons_succ, i64_w, i32_w]
         rfl
       refine take_ (i := 1) (N := some 114) (v := ?_) (a' := ?_) #[true, true, true, false, false, false, false, false, false, false, false, false, false, false, false, false, false, false, false, false, false, false, false, false, false, false, false, false, false, false, false, false, false, false, false, false, false, false, false, false, false] rfl rfl (take_ofW HT_.out HW_.out (by kernel_rfl)) (fun _ _ _ h => h) (Or.inl ⟨by rfl, ?_⟩) hHeld ?_ ?_
       rotate_left
       · rintro w' ⟨s0, s1, s2, s3, s4, s5, s6⟩
         go_simp
         with_reducible rfl
       rotate_left
       · simp only [Act.put, List.setIfInBounds_toArray, List.set_cons_zero, List.set_cons_succ, i64_w, i32_w]
         rfl
       refine take_ (i := 3) (N := some 116) (v := ?_) (a' := ?_) #[true, true, true, true, false, false, false, false, false, false, false, false, false, false, false, false, false, false, false, false, false, false, false, false, false, false, false, false, false, false, false, false, false, false, false, false, false, false, false, false, false] rfl rfl (take_ofW HT_.out HW_.out (by kernel_rfl)) (fun _ _ _ h => h) (Or.inl ⟨by rfl, ?_⟩) hHeld ?_ ?_
       rotate_left
       · rintro w' ⟨s0, s1, s2, s3, s4, s5, s6⟩
         go_simp
         with_reducible rfl
       rotate_left
       · simp only [Act.put, List.setIfInBounds_toArray, List.set_cons_zero, List.set_cons_succ, i64_w, i32_w]
         rfl
       refine pure_ (i := 4) (N := some 117) (v := ?_) (a' := ?_) #[true, true, true, true, true, false, false, false, false, false, false, false, false, false, false, false, false, false, false, false, false, false, false, false, false, false, false, false, false, false, false, false, false, false, false, false, false, false, false, false, false] rfl rfl (any_of HT_.out (by kernel_rfl)) (fun _ _ _ h => h) (Or.inl ⟨by rfl, ?_⟩) ?_ ?_
       rotate_left
       · intro w'
         go_simp
         with_reducible rfl
       rotate_left
       · simp only [Act.put, List.setIfInBounds_toArray, List.set_cons_zero, List.set_cons_succ, i64_w, i32_w]
         rfl
       refine pure_ (i := 5) (N := some 118) (v := ?_) (a' := ?_) #[true, true, true, true, true, true, false, false, false, false, false, false, false, false, false, false, false, false, false, false, false, false, false, false, false, false, false, false, false, false, false, false, false, false, false, false, false, false, false, false, false] rfl rfl (any_of HT_.out (by kernel_rfl)) (fun _ _ _ h => h) (Or.inl ⟨by rfl, ?_⟩) ?_ ?_
       rotate_left
       · intro w'
         go_simp
         with_reducible rfl
       rotate_left
       · simp only [Act.put, List.setIfInBounds_toArray, List.set_cons_zero, List.set_cons_succ, i64_w, i32_w]
         rfl
       refine pure_ (i := 6) (N := some 119) (v := ?_) (a' := ?_) #[true, true, true, true, true, true, true, false, false, false, false, false, false, false, false, false, false, false, false, false, false, false, false, false, false, false, false, false, false, false, false, false, false, false, false, false, false, false, false, false, false] rfl rfl (any_of HT_.out (by kernel_rfl)) (fun _ _ _ h => h) (Or.inl ⟨by rfl, ?_⟩) ?_ ?_
       rotate_left
       · intro w'
         go_simp
         with_reducible rfl
       rotate_left
       · simp only [Act.put, List.setIfInBounds_toArray, List.set_cons_zero, List.set_cons_succ, i64_w, i32_w]
         rfl
       refine pure_ (i := 7) (N := some 120) (v := ?_) (a' := ?_) #[true, true, true, true, true, true, true, true, false, false, false, false, false, false, false, false, false, false, false, false, false, false, false, false, false, false, false, false, false, false, false, false, false, false, false, false, false, false, false, false, false] rfl rfl (any_of HT_.out (by kernel_rfl)) (fun _ _ _ h => h) (Or.inl ⟨by rfl, ?_⟩) ?_ ?_
       rotate_left
       · intro w'
         go_simp
         with_reducible rfl
       rotate_left
       · simp only [Act.put, List.setIfInBounds_toArray, List.set_cons_zero, List.set_cons_succ, i64_w, i32_w]
         rfl
       refine pure_ (i := 8) (N := some 121) (v := ?_) (a' := ?_) #[true, true, true, true, true, true, true, true, true, false, false, false, false, false, false, false, false, false, false, false, false, false, false, false, false, false, false, false, false, false, false, false, false, false, false, false, false, false, false, false, false] rfl rfl (any_of HT_.out (by kernel_rfl)) (fun _ _ _ h => h) (Or.inl ⟨by rfl, ?_⟩) ?_ ?_
       rotate_left
       · intro w'
         go_simp
         with_reducible rfl
       rotate_left
       · simp only [Act.put, List.setIfInBounds_toArray, List.set_cons_zero, List.set_cons_succ, i64_w, i32_w]
         rfl
       refine pure_ (i := 10) (N := some 123) (v := ?_) (a' := ?_) #[true, true, true, true, true, true, true, true, true, false, true, false, false, false, false, false, false, false, false, false, false, false, false, false, false, false, false, false, false, false, false, false, false, false, false, false, false, false, false, false, false] rfl rfl (any_of HT_.out (by kernel_rfl)) (fun _ _ _ h => h) (Or.inl ⟨by rfl, ?_⟩) ?_ ?_
       rotate_left
       · intro w'
         go_simp
         with_reducible rfl
       rotate_left
       · simp only [Act.put, List.setIfInBounds_toArray, List.set_cons_zero, List.set_cons_succ, i64_w, i32_w]
         rfl
       refine take_ (i := 9) (N := some 122) (v := ?_) (a' := ?_) #[true, true, true, true, true, true, true, true, true, true, true, false, false, false, false, false, false, false, false, false, false, false, false, false, false, false, false, false, false, false, false, false, false, false, false, false, false, false, false, false, false] rfl rfl (take_ofW HT_.out HW_.out (by kernel_rfl)) (fun _ _ _ h => h) (Or.inl ⟨by rfl, ?_⟩) hHeld ?_ ?_
       rotate_left
       · rintro w' ⟨s0, s1, s2, s3, s4, s5, s6⟩
         go_simp
         with_reducible rfl
       rotate_left
       · simp only [Act.put, List.setIfInBounds_toArray, List.set_cons_zero, List.set_cons_succ, i64_w, i32_w]
         rfl
       refine take_ (i := 11) (N := some 124) (v := ?_) (a' := ?_) #[true, true, true, true, true, true, true, true, true, true, true, true, false, false, false, false, false, false, false, false, false, false, false, false, false, false, false, false, false, false, false, false, false, false, false, false, false, false, false, false, false] rfl rfl (take_ofW HT_.out HW_.out (by kernel_rfl)) (fun _ _ _ h => h) (Or.inl ⟨by rfl, ?_⟩) hHeld ?_ ?_
       rotate_left
       · rintro w' ⟨s0, s1, s2, s3, s4, s5, s6⟩
         go_simp
         with_reducible rfl
       rotate_left
       · simp only [Act.put, List.setIfInBounds_toArray, List.set_cons_zero, List.set_cons_succ, i64_w, i32_w]
         rfl
       refine pure_ (i := 12) (N := some 125) (v := ?_) (a' := ?_) #[true, true, true, true, true, true, true, true, true, true, true, true, true, false, false, false, false, false, false, false, false, false, false, false, false, false, false, false, false, false, false, false, false, false, false, false, false, false, false, false, false] rfl rfl (any_of HT_.out (by kernel_rfl)) (fun _ _ _ h => h) (Or.inl ⟨by rfl, ?_⟩) ?_ ?_
       rotate_left
       · intro w'
         go_simp
         with_reducible rfl
       rotate_left
       · simp only [Act.put, List.setIfInBounds_toArray, List.set_cons_zero, List.set_cons_succ, i64_w, i32_w]
         rfl
       refine pure_ (i := 13) (N := some 126) (v := ?_) (a' := ?_) #[true, true, true, true, true, true, true, true, true, true, true, true, true, true, false, false, false, false, false, false, false, false, false, false, false, false, false, false, false, false, false, false, false, false, false, false, false, false, false, false, false] rfl rfl (any_of HT_.out (by kernel_rfl)) (fun _ _ _ h => h) (Or.inl ⟨by rfl, ?_⟩) ?_ ?_
       rotate_left
       · intro w'
         go_simp
         with_reducible rfl
       rotate_left
       · simp only [Act.put, List.setIfInBounds_toArray, List.set_cons_zero, List.set_cons_succ, i64_w, i32_w]
         rfl
       refine pure_ (i := 14) (N := some 127) (v := ?_) (a' := ?_) #[true, true, true, true, true, true, true, true, true, true, true, true, true, true, true, false, false, false, false, false, false, false, false, false, false, false, false, false, false, false, false, false, false, false, false, false, false, false, false, false, false] rfl rfl (any_of HT_.out (by kernel_rfl)) (fun _ _ _ h => h) (Or.inl ⟨by rfl, ?_⟩) ?_ ?_
       rotate_left
       · intro w'
         go_simp
         with_reducible rfl
       rotate_left
       · simp only [Act.put, List.setIfInBounds_toArray, List.set_cons_zero, List.set_cons_succ, i64_w, i32_w]
         rfl
       refine pure_ (i := 15) (N := some 128) (v := ?_) (a' := ?_) #[true, true, true, true, true, true, true, true, true, true, true, true, true, true, true, true, false, false, false, false, false, false, false, false, false, false, false, false, false, false, false, false, false, false, false, false, false, false, false, false, false] rfl rfl (any_of HT_.out (by kernel_rfl)) (fun _ _ _ h => h) (Or.inl ⟨by rfl, ?_⟩) ?_ ?_
       rotate_left
       · intro w'
         go_simp
         with_reducible rfl
       rotate_left
       · simp only [Act.put, List.setIfInBounds_toArray, List.set_cons_zero, List.set_cons_succ, i64_w, i32_w]
         rfl
       refine pure_ (i := 16) (N := some 129) (v := ?_) (a' := ?_) #[true, true, true, true, true, true, true, true, true, true, true, true, true, true, true, true, true, false, false, false, false, false, false, false, false, false, false, false, false, false, false, false, false, false, false, false, false, false, false, false, false] rfl rfl (any_of HT_.out (by kernel_rfl)) (fun _ _ _ h => h) (Or.inl ⟨by rfl, ?_⟩) ?_ ?_
       rotate_left
       · intro w'
         go_simp
         with_reducible rfl
       rotate_left
       · simp only [Act.put, List.setIfInBounds_toArray, List.set_cons_zero, List.set_cons_succ, i64_w, i32_w]
         rfl
       refine pure_ (i := 17) (N := some 130) (v := ?_) (a' := ?_) #[true, true, true, true, true, true, true, true, true, true, true, true, true, true, true, true, true, true, false, false, false, false, false, false, false, false, false, false, false, false, false, false, false, false, false, false, false, false, false, false, false] rfl rfl (any_of HT_.out (by kernel_rfl)) (fun _ _ _ h => h) (Or.inl ⟨by rfl, ?_⟩) ?_ ?_
       rotate_left
       · intro w'
         go_simp
         with_reducible rfl
       rotate_left
       · simp only [Act.put, List.setIfInBounds_toArray, List.set_cons_zero, List.set_cons_succ, i64_w, i32_w]
         rfl
       refine pure_ (i := 18) (N := some 131) (v := ?_) (a' := ?_) #[true, true, true, true, true, true, true, true, true, true, true, true, true, true, true, true, true, true, true, false, false, false, false, false, false, false, false, false, false, false, false, false, false, false, false, false, false, false, false, false, false] rfl rfl (any_of HT_.out (by kernel_rfl)) (fun _ _ _ h => h) (Or.inl ⟨by rfl, ?_⟩) ?_ ?_
       rotate_left
       · intro w'
         go_simp
         with_reducible rfl
       rotate_left
       · simp only [Act.put, List.setIfInBounds_toArray, List.set_cons_zero, List.set_cons_succ, i64_w, i32_w]
         rfl
       refine pure_ (i := 20) (N := some 133) (v := ?_) (a' := ?_) #[true, true, true, true, true, true, true, true, true, true, true, true, true, true, true, true, true, true, true, false, true, false, false, false, false, false, false, false, false, false, false, false, false, false, false, false, false, false, false, false, false] rfl rfl (any_of HT_.out (by kernel_rfl)) (fun _ _ _ h => h) (Or.inl ⟨by rfl, ?_⟩) ?_ ?_
       rotate_left
       · intro w'
         go_simp
         with_reducible rfl
       rotate_left
       · simp only [Act.put, List.setIfInBounds_toArray, List.set_cons_zero, List.set_cons_succ, i64_w, i32_w]
         rfl
       refine take_ (i := 19) (N := some 132) (v := ?_) (a' := ?_) #[true, true, true, true, true, true, true, true, true, true, true, true, true, true, true, true, true, true, true, true, true, false, false, false, false, false, false, false, false, false, false, false, false, false, false, false, false, false, false, false, false] rfl rfl (take_ofW HT_.out HW_.out (by kernel_rfl)) (fun _ _ _ h => h) (Or.inl ⟨by rfl, ?_⟩) hHeld ?_ ?_
       rotate_left
       · rintro w' ⟨s0, s1, s2, s3, s4, s5, s6⟩
         go_simp
         with_reducible rfl
       rotate_left
       · simp only [Act.put, List.setIfInBounds_toArray, List.set_cons_zero, List.set_cons_succ, i64_w, i32_w]
         rfl
       refine take_ (i := 21) (N := some 134) (v := ?_) (a' := ?_) #[true, true, true, true, true, true, true, true, true, true, true, true, true, true, true, true, true, true, true, true, true, true, false, false, false, false, false, false, false, false, false, false, false, false, false, false, false, false, false, false, false] rfl rfl (take_ofW HT_.out HW_.out (by kernel_rfl)) (fun _ _ _ h => h) (Or.inl ⟨by rfl, ?_⟩) hHeld ?_ ?_
       rotate_left
       · rintro w' ⟨s0, s1, s2, s3, s4, s5, s6⟩
         go_simp
         with_reducible rfl
       rotate_left
       · simp only [Act.put, List.setIfInBounds_toArray, List.set_cons_zero, List.set_cons_succ, i64_w, i32_w]
         rfl
       refine pure_ (i := 22) (N := some 135) (v := ?_) (a' := ?_) #[true, true, true, true, true, true, true, true, true, true, true, true, true, true, true, true, true, true, true, true, true, true, true, false, false, false, false, false, false, false, false, false, false, false, false, false, false, false, false, false, false] rfl rfl (any_of HT_.out (by kernel_rfl)) (fun _ _ _ h => h) (Or.inl ⟨by rfl, ?_⟩) ?_ ?_
       rotate_left
       · intro w'
         go_simp
         with_reducible rfl
       rotate_left
       · simp only [Act.put, List.setIfInBounds_toArray, List.set_cons_zero, List.set_cons_succ, i64_w, i32_w]
         rfl
       refine pure_ (i := 23) (N := some 136) (v := ?_) (a' := ?_) #[true, true, true, true, true, true, true, true, true, true, true, true, true, true, true, true, true, true, true, true, true, true, true, true, false, false, false, false, false, false, false, false, false, false, false, false, false, false, false, false, false] rfl rfl (any_of HT_.out (by kernel_rfl)) (fun _ _ _ h => h) (Or.inl ⟨by rfl, ?_⟩) ?_ ?_
       rotate_left
       · intro w'
         go_simp
         with_reducible rfl
       rotate_left
       · simp only [Act.put, List.setIfInBounds_toArray, List.set_cons_zero, List.set_cons_succ, i64_w, i32_w]
         rfl
       refine pure_ (i := 24) (N := some 137) (v := ?_) (a' := ?_) #[true, true, true, true, true, true, true, true, true, true, true, true, true, true, true, true, true, true, true, true, true, true, true, true, true, false, false, false, false, false, false, false, false, false, false, false, false, false, false, false, false] rfl rfl (any_of HT_.out (by kernel_rfl)) (fun _ _ _ h => h) (Or.inl ⟨by rfl, ?_⟩) ?_ ?_
       rotate_left
       · intro w'
         go_simp
         with_reducible rfl
       rotate_left
       · simp only [Act.put, List.setIfInBounds_toArray, List.set_cons_zero, List.set_cons_succ, i64_w, i32_w]
         rfl
       refine pure_ (i := 25) (N := some 138) (v := ?_) (a' := ?_) #[true, true, true, true, true, true, true, true, true, true, true, true, true, true, true, true, true, true, true, true, true, true, true, true, true, true, false, false, false, false, false, false, false, false, false, false, false, false, false, false, false] rfl rfl (any_of HT_.out (by kernel_rfl)) (fun _ _ _ h => h) (Or.inl ⟨by rfl, ?_⟩) ?_ ?_
       rotate_left
       · intro w'
         go_simp
         with_reducible rfl
       rotate_left
       · simp only [Act.put, List.setIfInBounds_toArray, List.set_cons_zero, List.set_cons_succ, i64_w, i32_w]
         rfl
       refine pure_ (i := 26) (N := some 139) (v := ?_) (a' := ?_) #[true, true, true, true, true, true, true, true, true, true, true, true, true, true, true, true, true, true, true, true, true, true, true, true, true, true, true, false, false, false, false, false, false, false, false, false, false, false, false, false, false] rfl rfl (any_of HT_.out (by kernel_rfl)) (fun _ _ _ h => h) (Or.inl ⟨by rfl, ?_⟩) ?_ ?_
       rotate_left
       · intro w'
         go_simp
         with_reducible rfl
       rotate_left
       · simp only [Act.put, List.setIfInBounds_toArray, List.set_cons_zero, List.set_cons_succ, i64_w, i32_w]
         rfl
       refine pure_ (i := 27) (N := some 140) (v := ?_) (a' := ?_) #[true, true, true, true, true, true, true, true, true, true, true, true, true, true, true, true, true, true, true, true, true, true, true, true, true, true, true, true, false, false, false, false, false, false, false, false, false, false, false, false, false] rfl rfl (any_of HT_.out (by kernel_rfl)) (fun _ _ _ h => h) (Or.inl ⟨by rfl, ?_⟩) ?_ ?_
       rotate_left
       · intro w'
         go_simp
         with_reducible rfl
       rotate_left
       · simp only [Act.put, List.setIfInBounds_toArray, List.set_cons_zero, List.set_cons_succ, i64_w, i32_w]
         rfl
       refine pure_ (i := 28) (N := some 141) (v := ?_) (a' := ?_) #[true, true, true, true, true, true, true, true, true, true, true, true, true, true, true, true, true, true, true, true, true, true, true, true, true, true, true, true, true, false, false, false, false, false, false, false, false, false, false, false, false] rfl rfl (any_of HT_.out (by kernel_rfl)) (fun _ _ _ h => h) (Or.inl ⟨by rfl, ?_⟩) ?_ ?_
       rotate_left
       · intro w'
         go_simp
         with_reducible rfl
       rotate_left
       · simp only [Act.put, List.setIfInBounds_toArray, List.set_cons_zero, List.set_cons_succ, i64_w, i32_w]
         rfl
       refine pure_ (i := 30) (N := some 143) (v := ?_) (a' := ?_) #[true, true, true, true, true, true, true, true, true, true, true, true, true, true, true, true, true, true, true, true, true, true, true, true, true, true, true, true, true, false, true, false, false, false, false, false, false, false, false, false, false] rfl rfl (any_of HT_.out (by kernel_rfl)) (fun _ _ _ h => h) (Or.inl ⟨by rfl, ?_⟩) ?_ ?_
       rotate_left
       · intro w'
         go_simp
         with_reducible rfl
       rotate_left
       · simp only [Act.put, List.setIfInBounds_toArray, List.set_cons_zero, List.set_cons_succ, i64_w, i32_w]
         rfl
       refine pure_ (i := 32) (N := some 145) (v := ?_) (a' := ?_) #[true, true, true, true, true, true, true, true, true, true, true, true, true, true, true, true, true, true, true, true, true, true, true, true, true, true, true, true, true, false, true, false, true, false, false, false, false, false, false, false, false] rfl rfl (any_of HT_.out (by kernel_rfl)) (fun _ _ _ h => h) (Or.inl ⟨by rfl, ?_⟩) ?_ ?_
       rotate_left
       · intro w'
         go_simp
         with_reducible rfl
       rotate_left
       · simp only [Act.put, List.setIfInBounds_toArray, List.set_cons_zero, List.set_cons_succ, i64_w, i32_w]
         rfl
       refine pure_ (i := 34) (N := some 147) (v := ?_) (a' := ?_) #[true, true, true, true, true, true, true, true, true, true, true, true, true, true, true, true, true, true, true, true, true, true, true, true, true, true, true, true, true, false, true, false, true, false, true, false, false, false, false, false, false] rfl rfl (any_of HT_.out (by kernel_rfl)) (fun _ _ _ h => h) (Or.inl ⟨by rfl, ?_⟩) ?_ ?_
       rotate_left
       · intro w'
         go_simp
         with_reducible rfl
       rotate_left
       · simp only [Act.put, List.setIfInBounds_toArray, List.set_cons_zero, List.set_cons_succ, i64_w, i32_w]
         rfl
       refine pure_ (i := 37) (N := some 150) (v := ?_) (a' := ?_) #[true, true, true, true, true, true, true, true, true, true, true, true, true, true, true, true, true, true, true, true, true, true, true, true, true, true, true, true, true, false, true, false, true, false, true, false, false, true, false, false, false] rfl rfl (any_of HT_.out (by kernel_rfl)) (fun _ _ _ h => h) (Or.inl ⟨by rfl, ?_⟩) ?_ ?_
       rotate_left
       · intro w'
         go_simp
         with_reducible rfl
       rotate_left
       · simp only [Act.put, List.setIfInBounds_toArray, List.set_cons_zero, List.set_cons_succ, i64_w, i32_w]
         rfl
       refine take_ (i := 29) (N := some 142) (v := ?_) (a' := ?_) #[true, true, true, true, true, true, true, true, true, true, true, true, true, true, true, true, true, true, true, true, true, true, true, true, true, true, true, true, true, true, true, false, true, false, true, false, false, true, false, false, false] rfl rfl (take_ofW HT_.out HW_.out (by kernel_rfl)) (fun _ _ _ h => h) (Or.inl ⟨by rfl, ?_⟩) hHeld ?_ ?_
       rotate_left
       · rintro w' ⟨s0, s1, s2, s3, s4, s5, s6⟩
         go_simp
         with_reducible rfl
       rotate_left
       · simp only [Act.put, List.setIfInBounds_toArray, List.set_cons_zero, List.set_cons_succ, i64_w, i32_w]
         rfl
       refine take_ (i := 31) (N := some 144) (v := ?_) (a' := ?_) #[true, true, true, true, true, true, true, true, true, true, true, true, true, true, true, true, true, true, true, true, true, true, true, true, true, true, true, true, true, true, true, true, true, false, true, false, false, true, false, false, false] rfl rfl (take_ofW HT_.out HW_.out (by kernel_rfl)) (fun _ _ _ h => h) (Or.inl ⟨by rfl, ?_⟩) hHeld ?_ ?_
       rotate_left
       · rintro w' ⟨s0, s1, s2, s3, s4, s5, s6⟩
         go_simp
         with_reducible rfl
       rotate_left
       · simp only [Act.put, List.setIfInBounds_toArray, List.set_cons_zero, List.set_cons_succ, i64_w, i32_w]
         rfl
       refine take_ (i := 33) (N := some 146) (v := ?_) (a' := ?_) #[true, true, true, true, true, true, true, true, true, true, true, true, true, true, true, true, true, true, true, true, true, true, true, true, true, true, true, true, true, true, true, true, true, true, true, false, false, true, false, false, false] rfl rfl (take_ofW HT_.out HW_.out (by kernel_rfl)) (fun _ _ _ h => h) (Or.inl ⟨by rfl, ?_⟩) hHeld ?_ ?_
       rotate_left
       · rintro w' ⟨s0, s1, s2, s3, s4, s5, s6⟩
         go_simp
         with_reducible rfl
       rotate_left
       · simp only [Act.put, List.setIfInBounds_toArray, List.set_cons_zero, List.set_cons_succ, i64_w, i32_w]
         rfl
       refine take_ (i := 35) (N := some 148) (v := ?_) (a' := ?_) #[true, true, true, true, true, true, true, true, true, true, true, true, true, true, true, true, true, true, true, true, true, true, true, true, true, true, true, true, true, true, true, true, true, true, true, true, false, true, false, false, false] rfl rfl (take_ofW HT_.out HW_.out (by kernel_rfl)) (fun _ _ _ h => h) (Or.inl ⟨by rfl, ?_⟩) hHeld ?_ ?_
       rotate_left
       · rintro w' ⟨s0, s1, s2, s3, s4, s5, s6⟩
         go_simp
         with_reducible rfl
       rotate_left
       · simp only [Act.put, List.setIfInBounds_toArray, List.set_cons_zero, List.set_cons_succ, i64_w, i32_w]
         rfl
       refine take_ (i := 38) (N := some 151) (v := ?_) (a' := ?_) #[true, true, true, true, true, true, true, true, true, true, true, true, true, true, true, true, true, true, true, true, true, true, true, true, true, true, true, true, true, true, true, true, true, true, true, true, false, true, true, false, false] rfl rfl (take_ofW HT_.out HW_.out (by kernel_rfl)) (fun _ _ _ h => h) (Or.inl ⟨by rfl, ?_⟩) hHeld ?_ ?_
       rotate_left
       · rintro w' ⟨s0, s1, s2, s3, s4, s5, s6⟩
         go_simp
         with_reducible rfl
       rotate_left
       · simp only [Act.put, List.setIfInBounds_toArray, List.set_cons_zero, List.set_cons_succ, i64_w, i32_w]
         rfl
       refine one_ (i := 36) (N := some 149) #[true, true, true, true, true, true, true, true, true, true, true, true, true, true, true, true, true, true, true, true, true, true, true, true, true, true, true, true, true, true, true, true, true, true, true, true, true, true, true, false, false] rfl rfl (one_of HT_.out (by kernel_rfl)) (by decide) (fun K hK => ?_)
       refine goes_ Try.func18 (by kernel_rfl) rfl #[.pointer (some ⟨S, 0, none⟩), .int .i64 nd.f0, .int .i64 nd.f1, .int .i64 nd.f2] (by rfl) rfl rfl (by (try simp only [List.map_toArray, List.map_cons, List.map_nil]); first | done | rfl) ?_
       refine (M.out.node HND.out).mono ?_
       rintro e wz ⟨rfl, hm, hb, hk⟩
       refine ⟨_, rfl, ?_⟩
       have HMZ := Aside0.mk hm
       have HLZ := Aside0.mk (LB.out.trans hb)
       have Zb7 := Aside0.mk (hk _ _ Xb7.out Fb7.out)
       have Zb8 := Aside0.mk (hk _ _ Xb8.out Fb8.out)
       have Zb10 := Aside0.mk (hk _ _ Xb10.out Fb10.out)
       have Zb12 := Aside0.mk (hk _ _ Xb12.out Fb12.out)
       clear hm hb hk
       refine hK.out _ _ ⟨HMZ.out.c0, (blk_cell Zb7.out 0).trans rfl, (blk_cell Zb8.out 0).trans rfl, (blk_cell Zb8.out 1).trans rfl, (blk_cell Zb8.out 2).trans rfl, (blk_cell Zb10.out 0).trans rfl, (blk_cell Zb12.out 0).trans rfl⟩ (fun hHeld => ?_)
       clear hK K
       refine norm_ (a' := ?_) ?_ ?_
       rotate_left
       · show Act.put _ (some 149) _ = _
         simp only [Act.put, List.setIfInBounds_toArray, List.set_cons_zero, List.set_cons_succ, i64_w, i32_w]
         rfl
       refine pure_ (i := 39) (N := some 152) (v := ?_) (a' := ?_) #[true, true, true, true, true, true, true, true, true, true, true, true, true, true, true, true, true, true, true, true, true, true, true, true, true, true, true, true, true, true, true, true, true, true, true, true, true, true, true, true, false] rfl rfl (any_of HT_.out (by kernel_rfl)) (fun _ _ _ h => h) (Or.inl ⟨by rfl, ?_⟩) ?_ ?_
       rotate_left
       · intro w'
         go_simp
         with_reducible rfl
       rotate_left
       · simp only [Act.put, List.setIfInBounds_toArray, List.set_cons_zero, List.set_cons_succ, i64_w, i32_w]
         rfl
       refine pure_ (i := 40) (N := some 153) (v := ?_) (a' := ?_) #[true, true, true, true, true, true, true, true, true, true, true, true, true, true, true, true, true, true, true, true, true, true, true, true, true, true, true, true, true, true, true, true, true, true, true, true, true, true, true, true, true] rfl rfl (any_of HT_.out (by kernel_rfl)) (fun _ _ _ h => h) (Or.inl ⟨by rfl, ?_⟩) ?_ ?_
       rotate_left
       · intro w'
         go_simp
         with_reducible rfl
       rotate_left
       · simp only [Act.put, List.setIfInBounds_toArray, List.set_cons_zero, List.set_cons_succ, i64_w, i32_w]
         rfl
       refine done_ (done_of HT_.out (by kernel_rfl)) ?_
       clear hHeld
       go_wp2
       go_roundw
       case measure => simp [intOf]; omega
       case rel => exact ⟨i + 1, rfl, ⟨by omega⟩, HMZ, HLZ⟩
  · have dl : decide (i < (all.length : Int)) = false := by simpa using hlt
    clear hlt
    by_cases hi0 : 0 ≤ id
    · have di : decide (0 ≤ id) = true := by simpa using hi0
      by_cases hi1 : id < 4000
      · have di1 : decide (id < 4000) = true := by simpa using hi1
        go_wp2
        go_ret
        exact ⟨rfl, HBr.out⟩
      · have di1 : decide (id < 4000) = false := by simpa using hi1
        have di2 : decide (id < 0) = false := by simp; omega
        have HIV : Aside0 (validN ns id = false) := ⟨by cases h : validN ns id with | false => rfl | true => exact absurd (valid_lt h).2 (by have := HLN.out; omega)⟩
        clear hi0 hi1
        have hAB : atB ns id = false := by have h := HIV.out; unfold validN at h; unfold atB; simp at h ⊢; omega
        have HAT := Aside0.mk (fun (W : World) (h : Two w.heap.size W S S' ns ns) => h.atP id)
        rw [hAB] at HAT
        have hRG : runG ns id [] = -1 := by unfold runG; rw [HIV.out]; rfl
        have HRN := Aside0.mk (fun (W : World) (h : Two w.heap.size W S S' ns ns) => h.runP HW.out id 0 (hs := []) (A := none) (Kd.C_nil Kd.bool W) (by simp))
        rw [hRG] at HRN
        have HLV := Aside0.mk (fun (W : World) (h : Two w.heap.size W S S' ns ns) => h.leavesP HW.out id HID.out)
        rw [leavesF_invalid HIV.out] at HLV
        have HSZ := Aside0.mk (fun (W : World) (h : Two w.heap.size W S S' ns ns) => h.sizeP HW.out id HID.out)
        rw [sizeF_invalid HIV.out] at HSZ
        have hno : ∀ g h, chOk ns id g h = false := fun g h => by unfold chOk condF; rw [HIV.out]; simp
        have HB1 := Aside0.mk (both_not HW.out HID.out (r := -1002) (ns' := ns) (.inl ⟨hno _ _, rfl, rfl⟩))
        have HB2 := Aside0.mk (both_and HW.out (f := id) (g := -2) (r := -1002) (ns' := ns) HID.out (okI_of (by omega) (by omega)) (.inr ⟨(condF_leaf HW.out).2, .inl ⟨hno _ _, rfl, rfl⟩⟩))
        have hnd : nodeF ns 0 id (-1) = some (ns, -1002) := by unfold nodeF refuses; rw [HIV.out]; simp
        have HB3 := Aside0.mk (both_node hnd)
        clear hAB hRG hno hnd
        have q0 := HMr.out.c0
        obtain ⟨wo, rfl⟩ : ∃ wo : World, wo = wr := ⟨_, rfl⟩
        go_upto_region 23 with (go_at_call 17; refine (HAT.out _ HMr.out.two).mono ?_; rintro e wa ⟨rfl, hf⟩; have HMA := Aside0.mk (HMr.out.fr hf); have HBA := Aside0.mk (fr_low HBr.out HMr.out.two.size hf); clear hf)
        have HMB := Aside0.mk (HMA.out.below ((Below.refl wa.heap.size wa).alloc (Nat.le_refl _) (.cells #[.int .i64 (atN ns id).f0, .int .i64 (atN ns id).f1, .int .i64 (atN ns id).f2] 39)))
        have HBB := Aside0.mk (HBA.out.alloc HBA.out.size (.cells #[.int .i64 (atN ns id).f0, .int .i64 (atN ns id).f1, .int .i64 (atN ns id).f2] 39))
        generalize wa.alloc (.cells #[.int .i64 (atN ns id).f0, .int .i64 (atN ns id).f1, .int .i64 (atN ns id).f2] 39) = wb at HMB HBB ⊢
        clear q0 HMA HBA
        have q0 := HMB.out.c0
        go_wp2_with (first
         | (go_at_call 19; refine (HRN.out _ HMB.out.two).mono ?_; rintro e wc ⟨rfl, hf⟩; have HMc := Aside0.mk (HMB.out.fr hf); have HBc := Aside0.mk (fr_low HBB.out HMB.out.two.size hf); have q0c := HMc.out.c0; clear hf)
         | (go_at_call 13; refine (HLV.out _ HMc.out.two).mono ?_; rintro e wd ⟨vl, rfl, hrow, hf⟩; obtain ⟨Al, cl, el⟩ := Kd.R_slice hrow; subst el; have HMd := Aside0.mk (HMc.out.fr hf); have HBd := Aside0.mk (fr_low HBc.out HMc.out.two.size hf); have q0d := HMd.out.c0; clear hrow hf)
         | (go_at_call 15; refine (HSZ.out _ HMd.out.two).mono ?_; rintro e we ⟨rfl, hf⟩; have HMe := Aside0.mk (HMd.out.fr hf); have HBe := Aside0.mk (fr_low HBd.out HMd.out.two.size hf); have q0e := HMe.out.c0; clear hf)
         | (go_at_call 20; refine (HMe.out.two.callP (fun m v hS => HB1.out.1 S m v false _ hS)).mono ?_; rintro e wf ⟨rfl, ht, hk⟩; have HMf := Aside0.mk (HMe.out.step hk ht); have HBf := Aside0.mk (HBe.out.trans hk.b); have q0f := HMf.out.c0; clear ht hk)
         | (go_at_call 21; refine (HMf.out.two.callP (fun m v hS => HB2.out.1 S m v false _ hS)).mono ?_; rintro e wg ⟨rfl, ht, hk⟩; have HMg := Aside0.mk (HMf.out.step hk ht); have HBg := Aside0.mk (HBf.out.trans hk.b); have q0g := HMg.out.c0; clear ht hk)
         | (go_at_call 18; refine (HMg.out.two.callP (fun m v hS => HB3.out.1 S m v false _ hS)).mono ?_; rintro e wh ⟨rfl, ht, hk⟩; have HBh := Aside0.mk (HBg.out.trans hk.b); clear ht hk))
        go_ret
        exact ⟨rfl, HBh.out⟩
    · have di : decide (0 ≤ id) = false := by simpa using hi0
      have di2 : decide (id < 0) = true := by simp; omega
      by_cases hi1 : -1002 < id
      · have di1 : decide (-1002 < id) = true := by simpa using hi1
        go_wp2
        go_ret
        exact ⟨rfl, HBr.out⟩
      · have di1 : decide (-1002 < id) = false := by simpa using hi1
        have HIV : Aside0 (validN ns id = false) := ⟨by cases h : validN ns id with | false => rfl | true => exact absurd (valid_lt h).1 (by omega)⟩
        clear hi0 hi1
        have hAB : atB ns id = false := by have h := HIV.out; unfold validN at h; unfold atB; simp at h ⊢; omega
        have HAT := Aside0.mk (fun (W : World) (h : Two w.heap.size W S S' ns ns) => h.atP id)
        rw [hAB] at HAT
        have hRG : runG ns id [] = -1 := by unfold runG; rw [HIV.out]; rfl
        have HRN := Aside0.mk (fun (W : World) (h : Two w.heap.size W S S' ns ns) => h.runP HW.out id 0 (hs := []) (A := none) (Kd.C_nil Kd.bool W) (by simp))
        rw [hRG] at HRN
        have HLV := Aside0.mk (fun (W : World) (h : Two w.heap.size W S S' ns ns) => h.leavesP HW.out id HID.out)
        rw [leavesF_invalid HIV.out] at HLV
        have HSZ := Aside0.mk (fun (W : World) (h : Two w.heap.size W S S' ns ns) => h.sizeP HW.out id HID.out)
        rw [sizeF_invalid HIV.out] at HSZ
        have hno : ∀ g h, chOk ns id g h = false := fun g h => by unfold chOk condF; rw [HIV.out]; simp
        have HB1 := Aside0.mk (both_not HW.out HID.out (r := -1002) (ns' := ns) (.inl ⟨hno _ _, rfl, rfl⟩))
        have HB2 := Aside0.mk (both_and HW.out (f := id) (g := -2) (r := -1002) (ns' := ns) HID.out (okI_of (by omega) (by omega)) (.inr ⟨(condF_leaf HW.out).2, .inl ⟨hno _ _, rfl, rfl⟩⟩))
        have hnd : nodeF ns 0 id (-1) = some (ns, -1002) := by unfold nodeF refuses; rw [HIV.out]; simp
        have HB3 := Aside0.mk (both_node hnd)
        clear hAB hRG hno hnd
        have q0 := HMr.out.c0
        obtain ⟨wo, rfl⟩ : ∃ wo : World, wo = wr := ⟨_, rfl⟩
        go_upto_region 23 with (go_at_call 17; refine (HAT.out _ HMr.out.two).mono ?_; rintro e wa ⟨rfl, hf⟩; have HMA := Aside0.mk (HMr.out.fr hf); have HBA := Aside0.mk (fr_low HBr.out HMr.out.two.size hf); clear hf)
        have HMB := Aside0.mk (HMA.out.below ((Below.refl wa.heap.size wa).alloc (Nat.le_refl _) (.cells #[.int .i64 (atN ns id).f0, .int .i64 (atN ns id).f1, .int .i64 (atN ns id).f2] 39)))
        have HBB := Aside0.mk (HBA.out.alloc HBA.out.size (.cells #[.int .i64 (atN ns id).f0, .int .i64 (atN ns id).f1, .int .i64 (atN ns id).f2] 39))
        generalize wa.alloc (.cells #[.int .i64 (atN ns id).f0, .int .i64 (atN ns id).f1, .int .i64 (atN ns id).f2] 39) = wb at HMB HBB ⊢
        clear q0 HMA HBA
        have q0 := HMB.out.c0
        go_wp2_with (first
         | (go_at_call 19; refine (HRN.out _ HMB.out.two).mono ?_; rintro e wc ⟨rfl, hf⟩; have HMc := Aside0.mk (HMB.out.fr hf); have HBc := Aside0.mk (fr_low HBB.out HMB.out.two.size hf); have q0c := HMc.out.c0; clear hf)
         | (go_at_call 13; refine (HLV.out _ HMc.out.two).mono ?_; rintro e wd ⟨vl, rfl, hrow, hf⟩; obtain ⟨Al, cl, el⟩ := Kd.R_slice hrow; subst el; have HMd := Aside0.mk (HMc.out.fr hf); have HBd := Aside0.mk (fr_low HBc.out HMc.out.two.size hf); have q0d := HMd.out.c0; clear hrow hf)
         | (go_at_call 15; refine (HSZ.out _ HMd.out.two).mono ?_; rintro e we ⟨rfl, hf⟩; have HMe := Aside0.mk (HMd.out.fr hf); have HBe := Aside0.mk (fr_low HBd.out HMd.out.two.size hf); have q0e := HMe.out.c0; clear hf)
         | (go_at_call 20; refine (HMe.out.two.callP (fun m v hS => HB1.out.1 S m v false _ hS)).mono ?_; rintro e wf ⟨rfl, ht, hk⟩; have HMf := Aside0.mk (HMe.out.step hk ht); have HBf := Aside0.mk (HBe.out.trans hk.b); have q0f := HMf.out.c0; clear ht hk)
         | (go_at_call 21; refine (HMf.out.two.callP (fun m v hS => HB2.out.1 S m v false _ hS)).mono ?_; rintro e wg ⟨rfl, ht, hk⟩; have HMg := Aside0.mk (HMf.out.step hk ht); have HBg := Aside0.mk (HBf.out.trans hk.b); have q0g := HMg.out.c0; clear ht hk)
         | (go_at_call 18; refine (HMg.out.two.callP (fun m v hS => HB3.out.1 S m v false _ hS)).mono ?_; rintro e wh ⟨rfl, ht, hk⟩; have HBh := Aside0.mk (HBg.out.trans hk.b); clear ht hk))
        go_ret
        exact ⟨rfl, HBh.out⟩
end Go.Proofs.Ytihikenmknphkaa.Q
