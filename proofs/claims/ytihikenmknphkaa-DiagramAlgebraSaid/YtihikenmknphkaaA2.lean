/-
  Diagrams: the walk of made. A condition: choices that are bytes, at most 120 of them. (Written by wip/tools/gen_made.py.)
-/
import Derived.Test.YtihikenmknphkaaSA
import Derived.Test.YtihikenmknphkaaWInvWords
namespace Go.Proofs.Ytihikenmknphkaa.Q
open Go Go.RowKit Go.Maps Go.Proofs.YtihikenmknphkaaW.PrintWords Go.Proofs.YtihikenmknphkaaW.PrintLast Go.Proofs.YtihikenmknphkaaW.PrintMore Go.Proofs.Ytihikenmknphkaa.M
set_option linter.unusedVariables false
set_option linter.unusedSimpArgs false

def lv (i : Nat) : List Int := (List.range i).map fun (j : Nat) => -1 - (j : Int)
theorem lv_succ (i : Nat) : lv (i + 1) = lv i ++ [-1 - (i : Int)] := by unfold lv; rw [List.range_succ, List.map_append]; rfl
theorem lv_length (i : Nat) : (lv i).length = i := by unfold lv; simp
theorem new_ev (l : List Int) {most : Int} (h0 : 0 ≤ most) (h1 : most ≤ 120) (hb : bytesL l) : ∃ l' : List Int, flagstonedraw_New.f l most = some (l', 0) ∧ l'.length ≤ 120 ∧ bytesL l' := by
  unfold flagstonedraw_New.f
  by_cases h : (l.length : Int) > most
  · rw [if_pos h, if_pos h0, if_pos (by omega)]
    exact ⟨_, rfl, by rw [List.length_take]; omega, fun x hx => hb x (List.mem_of_mem_take hx)⟩
  · rw [if_neg h]
    exact ⟨_, rfl, by omega, hb⟩
theorem MkAt.start {B : Nat} {w : World} {S S' : Nat} (h : Two B w S S' [] []) : MkAt B (w.alloc (.cells #[.pointer (some ⟨S, 0, none⟩), .pointer (some ⟨S', 0, none⟩), .slice none 0 0, .bool true] 30)) w.heap.size S S' none 0 [] [] [] :=
  ⟨by have := blk_new w (.cells #[.pointer (some ⟨S, 0, none⟩), .pointer (some ⟨S', 0, none⟩), .slice none 0 0, .bool true] 30); simpa [boxM] using this, h.below ((Below.refl _ _).alloc (Nat.le_refl _) _), Kd.R_nil _ _ _ _ _, h.size⟩
theorem two_new {B : Nat} {w w1 w2 : World} (hB : B ≤ w.heap.size) (h1 : StAt 58 w1 (w.heap.size + 1) w.heap.size (.slice none 0 0) [] false) (b1 : Below w.heap.size w w1) (s1 : w1.heap.size = w.heap.size + 2)
    (h2 : StAt 67 w2 (w1.heap.size + 1) w1.heap.size (.slice none 0 0) [] false) (b2 : Below w1.heap.size w1 w2) : Two B w2 (w.heap.size + 1) (w1.heap.size + 1) [] [] := by
  have hn : ∀ k, (Value.slice none 0 0).ownBlock = some k → False := fun k e => by simp [Value.ownBlock] at e
  refine ⟨w.heap.size, .slice none 0 0, w1.heap.size, .slice none 0 0, h1.kept (Fr.of_below b2 (fun _ => False)) (fun _ _ e => e.elim), h2, fun k hk hk' => ?_, fun k hk => ?_, fun k hk => ?_⟩
  · rcases hk with e | e | e
    · rcases hk' with e' | e' | e'
      · omega
      · omega
      · exact hn _ e'
    · rcases hk' with e' | e' | e'
      · omega
      · omega
      · exact hn _ e'
    · exact hn _ e
  · rcases hk with e | e | e
    · omega
    · omega
    · exact (hn _ e).elim
  · rcases hk with e | e | e
    · omega
    · omega
    · exact (hn _ e).elim
theorem rd_mem {l : List Int} {i : Int} (h0 : 0 ≤ i) (h1 : i < (l.length : Int)) : rd l i ∈ l := by
  unfold rd
  rw [List.getD_eq_getElem?_getD, List.getElem?_eq_getElem (by omega : i.toNat < l.length)]
  exact List.getElem_mem _
theorem L71_3 : ∀ t, L71 t → L3 t := fun t h => by unfold L71 at h; subst h; unfold L3; omega
theorem below_between {B : Nat} {w0 w w1 : World} (h : Below B w0 w) (k : Below B w0 w1) (hs : w.heap.size ≤ w1.heap.size) : Below B w w1 :=
  ⟨k.os.trans h.os.symm, k.tape.trans h.tape.symm, k.output.trans h.output.symm, hs, fun j hj => (k.block j hj).trans (h.block j hj).symm⟩
def made.T9 : Bool × List (List Nat × List Nat) := (true, [([], []), ([], []), ([1], [1]), ([2], [2]), ([3], [3]), ([], []), ([4, 5], [4, 5]), ([], []), ([7], [7]), ([8], [8]), ([9], [9]), ([], []), ([10, 11, 6], [10, 11]), ([0, 6, 12, 12], [0, 6, 12])])
def made.B9 : List Nat := [0, 0, 2, 6, 14, 0, 62, 0, 128, 384, 896, 0, 4094, 8191]
theorem made.tab9 : rtab .any (opsOf Try.f10 9) = made.T9 := by kernel_rfl
theorem made.bits9 : waitsOk made.T9.2 made.B9 = true := by kernel_rfl
def made.T11 : Bool × List (List Nat × List Nat) := (true, [([], []), ([0], [0]), ([1], [1]), ([2], [2]), ([], []), ([4], [4]), ([], []), ([6], [6]), ([7], [7]), ([8], [8]), ([9], [9]), ([5, 10], [5, 10]), ([3, 11], [3, 11]), ([12], [12]), ([], []), ([14], [14]), ([15], [15]), ([16], [16]), ([], []), ([], []), ([19], [19]), ([20], [20]), ([21], [21]), ([22], [22]), ([18, 23, 5], [18, 23]), ([17, 24], [17, 24]), ([25], [25]), ([], []), ([27], [27]), ([28], [28]), ([29], [29]), ([], []), ([], []), ([32], [32]), ([33], [33]), ([34], [34]), ([35], [35]), ([31, 36, 24], [31, 36]), ([30, 37], [30, 37]), ([38], [38]), ([], []), ([], []), ([], []), ([40, 13, 37, 0, 1, 2, 3, 4, 5, 6, 7, 8, 9, 10, 11, 12, 13, 40, 41, 42], [13, 40]), ([41, 26, 43, 0, 1, 2, 3, 4, 5, 6, 7, 8, 9, 10, 11, 12, 13, 14, 15, 16, 17, 18, 19, 20, 21, 22, 23, 24, 25, 26, 40, 41, 42, 43], [26, 41]), ([42, 39, 44, 0, 1, 2, 3, 4, 5, 6, 7, 8, 9, 10, 11, 12, 13, 14, 15, 16, 17, 18, 19, 20, 21, 22, 23, 24, 25, 26, 27, 28, 29, 30, 31, 32, 33, 34, 35, 36, 37, 38, 39, 40, 41, 42, 43, 44], [39, 42])])
def made.B11 : List Nat := [0, 1, 3, 7, 0, 16, 0, 64, 192, 448, 960, 2032, 4095, 8191, 0, 16384, 49152, 114688, 0, 0, 524288, 1572864, 3670016, 7864320, 16515120, 33538096, 67092528, 0, 134217728, 402653184, 939524096, 0, 0, 4294967296, 12884901888, 30064771072, 64424509440, 135324762160, 274776981552, 549654888496, 0, 0, 0, 7969345126399, 16765539057663, 35184372088831]
theorem made.tab11 : rtab .any (opsOf Try.f10 11) = made.T11 := by kernel_rfl
theorem made.bits11 : waitsOk made.T11.2 made.B11 = true := by kernel_rfl
def made.T16 : Bool × List (List Nat × List Nat) := (true, [([], []), ([], []), ([1], [1]), ([2], [2]), ([3], [3]), ([], []), ([], []), ([6], [6]), ([], []), ([8], [8]), ([4, 5, 7, 9], [4, 5, 7, 9]), ([], []), ([11], [11]), ([12], [12]), ([13], [13]), ([], []), ([], []), ([16], [16]), ([], []), ([18], [18]), ([14, 15, 17, 19, 10], [14, 15, 17, 19]), ([0, 10, 20, 20], [0, 10, 20])])
def made.B16 : List Nat := [0, 0, 2, 6, 14, 0, 0, 64, 0, 256, 1022, 0, 2048, 6144, 14336, 0, 0, 65536, 0, 262144, 1048574, 2097151]
theorem made.tab16 : rtab .any (opsOf Try.f10 16) = made.T16 := by kernel_rfl
theorem made.bits16 : waitsOk made.T16.2 made.B16 = true := by kernel_rfl
def made.T19 : Bool × List (List Nat × List Nat) := (true, [([], []), ([], []), ([1], [1]), ([2], [2]), ([3], [3]), ([], []), ([4, 5], [4, 5]), ([], []), ([7], [7]), ([8], [8]), ([9], [9]), ([], []), ([10, 11, 6], [10, 11]), ([0, 6, 12, 12], [0, 6, 12])])
def made.B19 : List Nat := [0, 0, 2, 6, 14, 0, 62, 0, 128, 384, 896, 0, 4094, 8191]
theorem made.tab19 : rtab .any (opsOf Try.f10 19) = made.T19 := by kernel_rfl
theorem made.bits19 : waitsOk made.T19.2 made.B19 = true := by kernel_rfl
def made.T21 : Bool × List (List Nat × List Nat) := (true, [([], []), ([], []), ([1], [1]), ([2], [2]), ([3], [3]), ([], []), ([5], [5]), ([], []), ([7], [7]), ([], []), ([9], [9]), ([4, 6, 8, 10], [4, 6, 8, 10]), ([], []), ([12], [12]), ([13], [13]), ([14], [14]), ([], []), ([16], [16]), ([], []), ([18], [18]), ([], []), ([20], [20]), ([15, 17, 19, 21, 11], [15, 17, 19, 21]), ([0, 11, 22, 22], [0, 11, 22])])
def made.B21 : List Nat := [0, 0, 2, 6, 14, 0, 32, 0, 128, 0, 512, 2046, 0, 4096, 12288, 28672, 0, 65536, 0, 262144, 0, 1048576, 4194302, 8388607]
theorem made.tab21 : rtab .any (opsOf Try.f10 21) = made.T21 := by kernel_rfl
theorem made.bits21 : waitsOk made.T21.2 made.B21 = true := by kernel_rfl
def made.T23 : Bool × List (List Nat × List Nat) := (true, [([], []), ([], []), ([1], [1]), ([2], [2]), ([3], [3]), ([], []), ([5], [5]), ([], []), ([7], [7]), ([4, 6, 8], [4, 6, 8]), ([], []), ([10], [10]), ([11], [11]), ([12], [12]), ([], []), ([14], [14]), ([], []), ([16], [16]), ([13, 15, 17, 9], [13, 15, 17]), ([0, 9, 18, 18], [0, 9, 18])])
def made.B23 : List Nat := [0, 0, 2, 6, 14, 0, 32, 0, 128, 510, 0, 1024, 3072, 7168, 0, 16384, 0, 65536, 262142, 524287]
theorem made.tab23 : rtab .any (opsOf Try.f10 23) = made.T23 := by kernel_rfl
theorem made.bits23 : waitsOk made.T23.2 made.B23 = true := by kernel_rfl
def made.T25 : Bool × List (List Nat × List Nat) := (true, [([], []), ([], []), ([1], [1]), ([2], [2]), ([3], [3]), ([], []), ([5], [5]), ([], []), ([7], [7]), ([4, 6, 8], [4, 6, 8]), ([], []), ([10], [10]), ([11], [11]), ([12], [12]), ([], []), ([14], [14]), ([], []), ([16], [16]), ([13, 15, 17, 9], [13, 15, 17]), ([0, 9, 18, 18], [0, 9, 18])])
def made.B25 : List Nat := [0, 0, 2, 6, 14, 0, 32, 0, 128, 510, 0, 1024, 3072, 7168, 0, 16384, 0, 65536, 262142, 524287]
theorem made.tab25 : rtab .any (opsOf Try.f10 25) = made.T25 := by kernel_rfl
theorem made.bits25 : waitsOk made.T25.2 made.B25 = true := by kernel_rfl
def made.T27 : Bool × List (List Nat × List Nat) := (true, [([], []), ([], []), ([1], [1]), ([2], [2]), ([3], [3]), ([], []), ([5], [5]), ([4, 6], [4, 6]), ([], []), ([8], [8]), ([9], [9]), ([10], [10]), ([], []), ([12], [12]), ([11, 13, 7], [11, 13]), ([0, 7, 14, 14], [0, 7, 14])])
def made.B27 : List Nat := [0, 0, 2, 6, 14, 0, 32, 126, 0, 256, 768, 1792, 0, 4096, 16382, 32767]
theorem made.tab27 : rtab .any (opsOf Try.f10 27) = made.T27 := by kernel_rfl
theorem made.bits27 : waitsOk made.T27.2 made.B27 = true := by kernel_rfl

set_option maxRecDepth 100000 in
set_option maxHeartbeats 16000000 in
theorem made_calls (w0 w : World) (A0 : Option Addr) (c0 : Nat) (l0 : List Int) (most : Int) (hB : Below w0.heap.size w0 w) (hr0 : Kd.C (Kd.int .u8) w0 A0 l0.length l0) (hc0 : l0.length ≤ c0) (hby : bytesL l0) (hm0 : 0 ≤ most) (hm1 : most ≤ 120) :
    Calls Try.prog 10 #[.slice A0 l0.length c0, .int .i64 most] w fun e w' => ∃ G S S' A c ns all, e = .returned (.pointer (some ⟨G, 0, none⟩)) ∧ MkAt w0.heap.size w' G S S' A c ns ns all ∧ Six ns 1600 ∧ (∀ x ∈ all, validN ns x = true) ∧ -1 ∈ all ∧ all.length ≤ 200 ∧ Below w0.heap.size w0 w' := by
  have HB := Aside0.mk hB
  have HR0 := Aside0.mk hr0
  have HC0 := Aside0.mk hc0
  have hwl := hB.size
  obtain ⟨l, hnew, hll, hbl⟩ := new_ev l0 hm0 hm1 hby
  have HNEW := Aside0.mk hnew
  have HBL := Aside0.mk hbl
  clear hB hr0 hc0 hby hm0 hm1 hnew hbl
  have HWL := Aside0.mk hwl
  clear hwl
  have HLL := Aside0.mk hll
  clear hll
  go_enter Try.func10, Try.ntmps10
  go_upto_region 2 with (first | (go_at_call 22; refine (newP_calls w).mono ?_; rintro e w1 ⟨rfl, h1, b1, s1⟩; have H1 := Aside0.mk h1; have B1 := Aside0.mk b1; have S1 := Aside0.mk s1; clear h1 b1 s1) | (go_at_call 24; refine (newR_calls w1).mono ?_; rintro e w2 ⟨rfl, h2, b2, s2⟩; have HTW := Aside0.mk (two_new HWL.out H1.out B1.out S1.out h2 b2); have B2 := Aside0.mk (below_then HB.out HB.out.size B1.out); have B3 := Aside0.mk (below_then B2.out B2.out.size b2); clear h2 b2 s2))
  have HM := Aside0.mk (MkAt.start HTW.out)
  have HLOW : Aside0 (Below w0.heap.size w0 (w2.alloc (.cells #[.pointer (some ⟨w.heap.size + 1, 0, none⟩), .pointer (some ⟨w1.heap.size + 1, 0, none⟩), .slice none 0 0, .bool true] 30))) := ⟨B3.out.alloc B3.out.size _⟩
  generalize w2.alloc (.cells #[.pointer (some ⟨w.heap.size + 1, 0, none⟩), .pointer (some ⟨w1.heap.size + 1, 0, none⟩), .slice none 0 0, .bool true] 30) = w3 at HM HLOW ⊢
  generalize w.heap.size + 1 = S at HM ⊢
  generalize w1.heap.size + 1 = S' at HM ⊢
  generalize w2.heap.size = G at HM ⊢
  clear HTW B2 B3 H1 B1 S1 HB
  have q0 := HM.out.c0
  go_upto_region 6 with (go_at_call 34; refine (flagstonedraw_New.calls A0 c0 l0 most l 0 w0 w3 HLOW.out HR0.out HC0.out HNEW.out).mono ?_; rintro e w4 ⟨C, rfl, hi, hb0, hb⟩; have HCD4 := Aside0.mk hi; have HLOW4 := Aside0.mk hb0; have HM4 := Aside0.mk (HM.out.below hb); clear hi hb0 hb)
  clear q0 HM HLOW HNEW HR0 HC0
  obtain ⟨wl, hwl⟩ : ∃ wl : World, wl = w4 := ⟨_, rfl⟩
  subst hwl
  go_wp2
  go_loopw [7] (fun v7 wr => ∃ (i : Nat) (A : Option Addr) (c : Nat), v7 = .int .i64 (i : Int) ∧ Aside0 (i ≤ 4) ∧ Aside0 (MkAt w0.heap.size wr G S S' A c [] [] (lv i)) ∧ Aside0 (IsS71 w0 wr C l 0) ∧ Aside0 (Below w0.heap.size w0 wr)) (fun v7 _ => 4 - (intOf v7).toNat)
  case atStart => exact ⟨0, none, 0, rfl, ⟨by omega⟩, HM4, HCD4, HLOW4⟩
  case round =>
    obtain ⟨i, A, c, rfl, HI, HM, HCD, HLOW⟩ := hrel
    by_cases hlt : (i : Int) < 4
    · have p0 : (0 : Int) ≤ (i : Int) := by omega
      have dl : decide ((i : Int) < 4) = true := by simpa using hlt
      clear HM4 HCD4 HLOW4
      obtain ⟨wo, rfl⟩ : ∃ wo : World, wo = wr := ⟨_, rfl⟩
      go_upto_region 9 with fail
      refine start_ (n := 14) (S := fun w' => w'.cell? ⟨G, 0, none⟩ = some (.pointer (some ⟨S, 0, none⟩)) ∧ w'.cell? ⟨G, 1, none⟩ = some (.pointer (some ⟨S', 0, none⟩))) (ds := [13]) #[false, false, false, false, false, false, false, false, false, false, false, false, false, false] (by kernel_rfl) rfl rfl ⟨HM.out.drew.c0, HM.out.drew.c1⟩ (fun hHeld => ?_)
      refine with_tabW made.tab9 made.bits9 (fun HT_ HW_ => ?_)
      refine pure_ (i := 0) (N := some 33) (v := ?_) (a' := ?_) #[true, false, false, false, false, false, false, false, false, false, false, false, false, false] rfl rfl (any_of HT_.out (by kernel_rfl)) (fun _ _ _ h => h) (Or.inl ⟨by rfl, ?_⟩) ?_ ?_
      rotate_left
      · intro w'
        go_simp
        with_reducible rfl
      rotate_left
      · simp only [Act.put, List.setIfInBounds_toArray, List.set_cons_zero, List.set_cons_succ, i64_w, i32_w]
        rfl
      refine pure_ (i := 1) (N := some 34) (v := ?_) (a' := ?_) #[true, true, false, false, false, false, false, false, false, false, false, false, false, false] rfl rfl (any_of HT_.out (by kernel_rfl)) (fun _ _ _ h => h) (Or.inl ⟨by rfl, ?_⟩) ?_ ?_
      rotate_left
      · intro w'
        go_simp
        with_reducible rfl
      rotate_left
      · simp only [Act.put, List.setIfInBounds_toArray, List.set_cons_zero, List.set_cons_succ, i64_w, i32_w]
        rfl
      refine pure_ (i := 2) (N := some 35) (v := ?_) (a' := ?_) #[true, true, true, false, false, false, false, false, false, false, false, false, false, false] rfl rfl (any_of HT_.out (by kernel_rfl)) (fun _ _ _ h => h) (Or.inl ⟨by rfl, ?_⟩) ?_ ?_
      rotate_left
      · intro w'
        go_simp
        with_reducible rfl
      rotate_left
      · simp only [Act.put, List.setIfInBounds_toArray, List.set_cons_zero, List.set_cons_succ, i64_w, i32_w]
        rfl
      refine pure_ (i := 3) (N := some 36) (v := ?_) (a' := ?_) #[true, true, true, true, false, false, false, false, false, false, false, false, false, false] rfl rfl (any_of HT_.out (by kernel_rfl)) (fun _ _ _ h => h) (Or.inl ⟨by rfl, ?_⟩) ?_ ?_
      rotate_left
      · intro w'
        go_simp
        with_reducible rfl
      rotate_left
      · simp only [Act.put, List.setIfInBounds_toArray, List.set_cons_zero, List.set_cons_succ, i64_w, i32_w]
        rfl
      refine take_ (i := 4) (N := some 37) (v := ?_) (a' := ?_) #[true, true, true, true, true, false, false, false, false, false, false, false, false, false] rfl rfl (take_ofW HT_.out HW_.out (by kernel_rfl)) (fun _ _ _ h => h) (Or.inl ⟨by rfl, ?_⟩) hHeld ?_ ?_
      rotate_left
      · rintro w' ⟨s0, s1⟩
        go_simp
        with_reducible rfl
      rotate_left
      · simp only [Act.put, List.setIfInBounds_toArray, List.set_cons_zero, List.set_cons_succ, i64_w, i32_w]
        rfl
      refine pure_ (i := 5) (N := some 38) (v := ?_) (a' := ?_) #[true, true, true, true, true, true, false, false, false, false, false, false, false, false] rfl rfl (any_of HT_.out (by kernel_rfl)) (fun _ _ _ h => h) (Or.inl ⟨by rfl, ?_⟩) ?_ ?_
      rotate_left
      · intro w'
        go_simp
        with_reducible rfl
      rotate_left
      · simp only [Act.put, List.setIfInBounds_toArray, List.set_cons_zero, List.set_cons_succ, i64_w, i32_w]
        rfl
      refine pure_ (i := 7) (N := some 40) (v := ?_) (a' := ?_) #[true, true, true, true, true, true, false, true, false, false, false, false, false, false] rfl rfl (any_of HT_.out (by kernel_rfl)) (fun _ _ _ h => h) (Or.inl ⟨by rfl, ?_⟩) ?_ ?_
      rotate_left
      · intro w'
        go_simp
        with_reducible rfl
      rotate_left
      · simp only [Act.put, List.setIfInBounds_toArray, List.set_cons_zero, List.set_cons_succ, i64_w, i32_w]
        rfl
      refine pure_ (i := 8) (N := some 41) (v := ?_) (a' := ?_) #[true, true, true, true, true, true, false, true, true, false, false, false, false, false] rfl rfl (any_of HT_.out (by kernel_rfl)) (fun _ _ _ h => h) (Or.inl ⟨by rfl, ?_⟩) ?_ ?_
      rotate_left
      · intro w'
        go_simp
        with_reducible rfl
      rotate_left
      · simp only [Act.put, List.setIfInBounds_toArray, List.set_cons_zero, List.set_cons_succ, i64_w, i32_w]
        rfl
      refine pure_ (i := 9) (N := some 42) (v := ?_) (a' := ?_) #[true, true, true, true, true, true, false, true, true, true, false, false, false, false] rfl rfl (any_of HT_.out (by kernel_rfl)) (fun _ _ _ h => h) (Or.inl ⟨by rfl, ?_⟩) ?_ ?_
      rotate_left
      · intro w'
        go_simp
        with_reducible rfl
      rotate_left
      · simp only [Act.put, List.setIfInBounds_toArray, List.set_cons_zero, List.set_cons_succ, i64_w, i32_w]
        rfl
      refine take_ (i := 10) (N := some 43) (v := ?_) (a' := ?_) #[true, true, true, true, true, true, false, true, true, true, true, false, false, false] rfl rfl (take_ofW HT_.out HW_.out (by kernel_rfl)) (fun _ _ _ h => h) (Or.inl ⟨by rfl, ?_⟩) hHeld ?_ ?_
      rotate_left
      · rintro w' ⟨s0, s1⟩
        go_simp
        with_reducible rfl
      rotate_left
      · simp only [Act.put, List.setIfInBounds_toArray, List.set_cons_zero, List.set_cons_succ, i64_w, i32_w]
        rfl
      refine pure_ (i := 11) (N := some 44) (v := ?_) (a' := ?_) #[true, true, true, true, true, true, false, true, true, true, true, true, false, false] rfl rfl (any_of HT_.out (by kernel_rfl)) (fun _ _ _ h => h) (Or.inl ⟨by rfl, ?_⟩) ?_ ?_
      rotate_left
      · intro w'
        go_simp
        with_reducible rfl
      rotate_left
      · simp only [Act.put, List.setIfInBounds_toArray, List.set_cons_zero, List.set_cons_succ, i64_w, i32_w]
        rfl
      refine one_ (i := 6) (N := some 39) #[true, true, true, true, true, true, true, true, true, true, true, true, false, false] rfl rfl (one_of HT_.out (by kernel_rfl)) (by decide) (fun K hK => ?_)
      refine goes_ Try.func25 (by kernel_rfl) rfl #[.pointer (some ⟨S, 0, none⟩), .int .i64 (i : Int)] (by rfl) rfl rfl (by (try simp only [List.map_toArray, List.map_cons, List.map_nil]); first | done | rfl) ?_
      refine (leafP_calls S _ _ (okI_of (by omega) (by omega))).mono ?_
      rintro e w5 ⟨rfl, rfl⟩
      refine ⟨_, rfl, ?_⟩
      refine hK.out _ _ hHeld (fun hHeld2 => ?_)
      clear hK K
      refine norm_ (a' := ?_) ?_ ?_
      rotate_left
      · show Act.put _ (some 39) _ = _
        simp only [Act.put, List.setIfInBounds_toArray, List.set_cons_zero, List.set_cons_succ, i64_w, i32_w]
        rfl
      refine one_ (i := 12) (N := some 45) #[true, true, true, true, true, true, true, true, true, true, true, true, true, false] rfl rfl (one_of HT_.out (by kernel_rfl)) (by decide) (fun K hK => ?_)
      refine goes_ Try.func26 (by kernel_rfl) rfl #[.pointer (some ⟨S', 0, none⟩), .int .i64 (i : Int)] (by rfl) rfl rfl (by (try simp only [List.map_toArray, List.map_cons, List.map_nil]); first | done | rfl) ?_
      refine (leafR_calls S' _ _ (okI_of (by omega) (by omega))).mono ?_
      rintro e w5 ⟨rfl, rfl⟩
      refine ⟨_, rfl, ?_⟩
      refine hK.out _ _ hHeld (fun hHeld3 => ?_)
      clear hK K
      refine norm_ (a' := ?_) ?_ ?_
      rotate_left
      · show Act.put _ (some 45) _ = _
        simp only [Act.put, List.setIfInBounds_toArray, List.set_cons_zero, List.set_cons_succ, i64_w, i32_w]
        rfl
      refine last_ (i := 13) (N := some 46) #[true, true, true, true, true, true, true, true, true, true, true, true, true, true] rfl rfl (one_of HT_.out (by kernel_rfl)) (by decide) (fun K hK => ?_)
      refine goes_ Try.func35 (by kernel_rfl) rfl #[.pointer (some ⟨G, 0, none⟩), .int .i64 (leafN (i : Int)), .int .i64 (leafN (i : Int))] (by rfl) rfl rfl (by (try simp only [List.map_toArray, List.map_cons, List.map_nil]); first | done | rfl) ?_
      refine (add_calls w0.heap.size wo.drew G S S' A c [] (lv i) (leafN (i : Int)) WF.nil HM.out.drew (by rw [lv_length]; omega)).mono ?_
      rintro e w5 ⟨rfl, ⟨A1, c1, hm5⟩, hk5⟩
      refine ⟨_, rfl, ?_⟩
      have hne : leafN (i : Int) = -1 - (i : Int) := by unfold leafN; rw [if_neg (by omega)]
      rw [hne, if_neg (by omega)] at hm5
      have HMN := Aside0.mk hm5
      have HCN := Aside0.mk ((show IsS71 w0 wo.drew C l 0 from HCD.out.drew).kq hk5)
      have HLN : Aside0 (Below w0.heap.size w0 w5) := ⟨(HLOW.out.drew).trans hk5.b⟩
      clear hm5 hk5 hne
      refine hK.out _ _ ?_
      clear hK K
      refine done_ (done_of HT_.out (by kernel_rfl)) ?_
      go_wp2
      go_roundw
      case measure => simp [intOf]; omega
      case rel => exact ⟨i + 1, A1, c1, rfl, ⟨by omega⟩, ⟨by rw [lv_succ]; exact HMN.out⟩, HCN, HLN⟩
    · have hi4 : i = 4 := by have := HI.out; omega
      subst hi4
      have dl : decide (((4 : Nat) : Int) < 4) = false := by decide
      go_wp2
      have HINV : MadeInv w0 G S S' C l wr 0 [] (lv 4) A c := ⟨HM.out, HCD.out, HLOW.out, ⟨WF.nil, fun x hx => by simp at hx, by simp⟩, .inr (by simp), by omega, by omega, by rw [lv_length]; omega, fun x hx => by
        have : x = -1 ∨ x = -2 ∨ x = -3 ∨ x = -4 := by
          have h : lv 4 = [-1, -2, -3, -4] := by decide
          rw [h] at hx
          simpa using hx
        exact valid_iff.2 (by simp; omega), by decide⟩
      have HIN := Aside0.mk HINV
      clear HINV HM HCD HLOW HI hlt dl HM4 HCD4 HLOW4
      obtain ⟨wk, hwk⟩ : ∃ wk : World, wk = wr := ⟨_, rfl⟩
      subst hwk
      go_loopg [8] (l.length + 1) (fun kq v8 wr => ∃ (at_ : Int) (ns : List N39) (all : List Int) (A : Option Addr) (c : Nat), Aside0 (MadeInv w0 G S S' C l wr at_ ns all A c) ∧ Aside0 ((l.length : Int) - at_ < kq))
      case atStart => exact ⟨0, [], lv 4, A, c, HIN, ⟨by omega⟩⟩
      case round =>
        clear HIN
        obtain ⟨at_, ns, all, A, c, HV, HK⟩ := hrel
        have hlen120 := HLL.out
        obtain ⟨wo, rfl⟩ : ∃ wo : World, wo = wr := ⟨_, rfl⟩
        have q3 := HV.out.mka.c3
        by_cases hlt : at_ < l.length
        · have HLT := Aside0.mk hlt
          have dl : decide (at_ < (l.length : Int)) = true := by simpa using hlt
          obtain ⟨gk1, rfl⟩ : ∃ k, gk = k + 1 := ⟨gk - 1, by have := HK.out; omega⟩
          clear hlt
          go_upto_region 11 with (go_at_call 36; refine (flagstonedraw_Codes_Left.calls C l at_ (decide (at_ < (l.length : Int))) at_ w0 wo HV.out.cod HV.out.low rfl).mono ?_; rw [dl]; rintro e w5 ⟨rfl, hi, hb, hk⟩; have HM5 := Aside0.mk (HV.out.mka.codes HV.out.cod hk (below_between HV.out.low hb hk.1)); have HC5 := Aside0.mk hi; have HL5 := Aside0.mk hb; have q3 := HM5.out.c3; clear hi hb hk)
          clear q3 dl
          have hl4 : 0 < all.length := List.length_pos_of_mem HV.out.leaf
          have hal := HV.out.alen
          have hv0 := HV.out.at0
          have hv1 := HV.out.at1
          obtain ⟨r1, e1, a1, b1⟩ := wide_ev HBL.out (by omega) hv0 hv1
          obtain ⟨at1, hat1⟩ : ∃ x : Int, x = min (at_ + 2) (l.length : Int) := ⟨_, rfl⟩
          rw [← hat1] at e1
          obtain ⟨r2, e2, a2, b2⟩ := next_ev HBL.out (by omega) (at_ := at1) (n := (all.length : Int)) (by omega) (by omega) (by omega)
          obtain ⟨at2, hat2⟩ : ∃ x : Int, x = min (at1 + 1) (l.length : Int) := ⟨_, rfl⟩
          rw [← hat2] at e2
          obtain ⟨r3, e3, a3, b3⟩ := next_ev HBL.out (by omega) (at_ := at2) (n := (all.length : Int)) (by omega) (by omega) (by omega)
          obtain ⟨at3, hat3⟩ : ∃ x : Int, x = min (at2 + 1) (l.length : Int) := ⟨_, rfl⟩
          rw [← hat3] at e3
          have HA3 : Aside0 (at3 = min (at_ + 4) (l.length : Int)) := ⟨by rw [hat3, hat2, hat1]; clear hat3 hat2 hat1 e1 e2 e3; omega⟩
          have HE1 := Aside0.mk e1
          have HE2 := Aside0.mk e2
          have HE3 := Aside0.mk e3
          have p1 : 0 ≤ Int.tmod r1 (all.length : Int) := Int.tmod_nonneg _ a1
          have p2 : Int.tmod r1 (all.length : Int) < (all.length : Int) := Int.tmod_lt_of_pos _ (by omega)
          have pn : ¬ all = [] := fun e => by rw [e] at hl4; simp at hl4
          have HAI : Aside0 (∃ ad, A = some ad) := ⟨by obtain ⟨ad, e, _⟩ := at_T32 (Kd.R_reads' HM5.out.row).2.2 0 (by omega) (by omega); exact ⟨ad, e⟩⟩
          obtain ⟨ad, eA⟩ := HAI.out
          subst eA
          clear HAI hat1 hat2 hat3 e1 e2 e3 b1 hv0 hv1
          have M := Aside0.mk HM5.out.drew
          have C0 : Aside0 (IsS71 w0 w5.drew C l at_) := ⟨HC5.out.drew⟩
          have LB : Aside0 (Below w0.heap.size w0 w5.drew) := ⟨HL5.out.drew⟩
          have HS5 : Aside0 (0 < w5.drew.heap.size) := ⟨by have := M.out.two.size; have := C0.out.size; omega⟩
          have L8 := HS5
          have L9 := HS5
          have La := HS5
          refine start_ (n := 46) (S := fun w' => True) (ds := []) #[false, false, false, false, false, false, false, false, false, false, false, false, false, false, false, false, false, false, false, false, false, false, false, false, false, false, false, false, false, false, false, false, false, false, false, false, false, false, false, false, false, false, false, false, false, false] (by kernel_rfl) rfl rfl trivial (fun hHeld => ?_)
          refine with_tabW made.tab11 made.bits11 (fun HT_ HW_ => ?_)
          generalize w5.drew = w6 at M C0 LB L8 L9 La hHeld ⊢
          clear HM5 HC5 HL5 HS5
          refine pure_ (i := 0) (N := some 55) (v := ?_) (a' := ?_) #[true, false, false, false, false, false, false, false, false, false, false, false, false, false, false, false, false, false, false, false, false, false, false, false, false, false, false, false, false, false, false, false, false, false, false, false, false, false, false, false, false, false, false, false, false, false] rfl rfl (any_of HT_.out (by kernel_rfl)) (fun _ _ _ h => h) (Or.inl ⟨by rfl, ?_⟩) ?_ ?_
          rotate_left
          · intro w'
            go_simp
            with_reducible rfl
          rotate_left
          · simp only [Act.put, List.setIfInBounds_toArray, List.set_cons_zero, List.set_cons_succ, i64_w, i32_w]
            rfl
          refine pure_ (i := 1) (N := some 56) (v := ?_) (a' := ?_) #[true, true, false, false, false, false, false, false, false, false, false, false, false, false, false, false, false, false, false, false, false, false, false, false, false, false, false, false, false, false, false, false, false, false, false, false, false, false, false, false, false, false, false, false, false, false] rfl rfl (any_of HT_.out (by kernel_rfl)) (fun _ _ _ h => h) (Or.inl ⟨by rfl, ?_⟩) ?_ ?_
          rotate_left
          · intro w'
            go_simp
            with_reducible rfl
          rotate_left
          · simp only [Act.put, List.setIfInBounds_toArray, List.set_cons_zero, List.set_cons_succ, i64_w, i32_w]
            rfl
          refine pure_ (i := 2) (N := some 57) (v := ?_) (a' := ?_) #[true, true, true, false, false, false, false, false, false, false, false, false, false, false, false, false, false, false, false, false, false, false, false, false, false, false, false, false, false, false, false, false, false, false, false, false, false, false, false, false, false, false, false, false, false, false] rfl rfl (any_of HT_.out (by kernel_rfl)) (fun _ _ _ h => h) (Or.inl ⟨by rfl, ?_⟩) ?_ ?_
          rotate_left
          · intro w'
            go_simp
            with_reducible rfl
          rotate_left
          · simp only [Act.put, List.setIfInBounds_toArray, List.set_cons_zero, List.set_cons_succ, i64_w, i32_w]
            rfl
          refine pure_ (i := 4) (N := some 59) (v := ?_) (a' := ?_) #[true, true, true, false, true, false, false, false, false, false, false, false, false, false, false, false, false, false, false, false, false, false, false, false, false, false, false, false, false, false, false, false, false, false, false, false, false, false, false, false, false, false, false, false, false, false] rfl rfl (any_of HT_.out (by kernel_rfl)) (fun _ _ _ h => h) (Or.inl ⟨by rfl, ?_⟩) ?_ ?_
          rotate_left
          · intro w'
            go_simp
            with_reducible rfl
          rotate_left
          · simp only [Act.put, List.setIfInBounds_toArray, List.set_cons_zero, List.set_cons_succ, i64_w, i32_w]
            rfl
          refine pure_ (i := 6) (N := some 61) (v := ?_) (a' := ?_) #[true, true, true, false, true, false, true, false, false, false, false, false, false, false, false, false, false, false, false, false, false, false, false, false, false, false, false, false, false, false, false, false, false, false, false, false, false, false, false, false, false, false, false, false, false, false] rfl rfl (any_of HT_.out (by kernel_rfl)) (fun _ _ _ h => h) (Or.inl ⟨by rfl, ?_⟩) ?_ ?_
          rotate_left
          · intro w'
            go_simp
            with_reducible rfl
          rotate_left
          · simp only [Act.put, List.setIfInBounds_toArray, List.set_cons_zero, List.set_cons_succ, i64_w, i32_w]
            rfl
          refine pure_ (i := 7) (N := some 62) (v := ?_) (a' := ?_) #[true, true, true, false, true, false, true, true, false, false, false, false, false, false, false, false, false, false, false, false, false, false, false, false, false, false, false, false, false, false, false, false, false, false, false, false, false, false, false, false, false, false, false, false, false, false] rfl rfl (any_of HT_.out (by kernel_rfl)) (fun _ _ _ h => h) (Or.inl ⟨by rfl, ?_⟩) ?_ ?_
          rotate_left
          · intro w'
            go_simp
            with_reducible rfl
          rotate_left
          · simp only [Act.put, List.setIfInBounds_toArray, List.set_cons_zero, List.set_cons_succ, i64_w, i32_w]
            rfl
          refine pure_ (i := 8) (N := some 63) (v := ?_) (a' := ?_) #[true, true, true, false, true, false, true, true, true, false, false, false, false, false, false, false, false, false, false, false, false, false, false, false, false, false, false, false, false, false, false, false, false, false, false, false, false, false, false, false, false, false, false, false, false, false] rfl rfl (any_of HT_.out (by kernel_rfl)) (fun _ _ _ h => h) (Or.inl ⟨by rfl, ?_⟩) ?_ ?_
          rotate_left
          · intro w'
            go_simp
            with_reducible rfl
          rotate_left
          · simp only [Act.put, List.setIfInBounds_toArray, List.set_cons_zero, List.set_cons_succ, i64_w, i32_w]
            rfl
          refine pure_ (i := 14) (N := some 69) (v := ?_) (a' := ?_) #[true, true, true, false, true, false, true, true, true, false, false, false, false, false, true, false, false, false, false, false, false, false, false, false, false, false, false, false, false, false, false, false, false, false, false, false, false, false, false, false, false, false, false, false, false, false] rfl rfl (any_of HT_.out (by kernel_rfl)) (fun _ _ _ h => h) (Or.inl ⟨by rfl, ?_⟩) ?_ ?_
          rotate_left
          · intro w'
            go_simp
            with_reducible rfl
          rotate_left
          · simp only [Act.put, List.setIfInBounds_toArray, List.set_cons_zero, List.set_cons_succ, i64_w, i32_w]
            rfl
          refine pure_ (i := 15) (N := some 70) (v := ?_) (a' := ?_) #[true, true, true, false, true, false, true, true, true, false, false, false, false, false, true, true, false, false, false, false, false, false, false, false, false, false, false, false, false, false, false, false, false, false, false, false, false, false, false, false, false, false, false, false, false, false] rfl rfl (any_of HT_.out (by kernel_rfl)) (fun _ _ _ h => h) (Or.inl ⟨by rfl, ?_⟩) ?_ ?_
          rotate_left
          · intro w'
            go_simp
            with_reducible rfl
          rotate_left
          · simp only [Act.put, List.setIfInBounds_toArray, List.set_cons_zero, List.set_cons_succ, i64_w, i32_w]
            rfl
          refine pure_ (i := 16) (N := some 71) (v := ?_) (a' := ?_) #[true, true, true, false, true, false, true, true, true, false, false, false, false, false, true, true, true, false, false, false, false, false, false, false, false, false, false, false, false, false, false, false, false, false, false, false, false, false, false, false, false, false, false, false, false, false] rfl rfl (any_of HT_.out (by kernel_rfl)) (fun _ _ _ h => h) (Or.inl ⟨by rfl, ?_⟩) ?_ ?_
          rotate_left
          · intro w'
            go_simp
            with_reducible rfl
          rotate_left
          · simp only [Act.put, List.setIfInBounds_toArray, List.set_cons_zero, List.set_cons_succ, i64_w, i32_w]
            rfl
          refine pure_ (i := 18) (N := some 73) (v := ?_) (a' := ?_) #[true, true, true, false, true, false, true, true, true, false, false, false, false, false, true, true, true, false, true, false, false, false, false, false, false, false, false, false, false, false, false, false, false, false, false, false, false, false, false, false, false, false, false, false, false, false] rfl rfl (any_of HT_.out (by kernel_rfl)) (fun _ _ _ h => h) (Or.inl ⟨by rfl, ?_⟩) ?_ ?_
          rotate_left
          · intro w'
            go_simp
            with_reducible rfl
          rotate_left
          · simp only [Act.put, List.setIfInBounds_toArray, List.set_cons_zero, List.set_cons_succ, i64_w, i32_w]
            rfl
          refine pure_ (i := 19) (N := some 74) (v := ?_) (a' := ?_) #[true, true, true, false, true, false, true, true, true, false, false, false, false, false, true, true, true, false, true, true, false, false, false, false, false, false, false, false, false, false, false, false, false, false, false, false, false, false, false, false, false, false, false, false, false, false] rfl rfl (any_of HT_.out (by kernel_rfl)) (fun _ _ _ h => h) (Or.inl ⟨by rfl, ?_⟩) ?_ ?_
          rotate_left
          · intro w'
            go_simp
            with_reducible rfl
          rotate_left
          · simp only [Act.put, List.setIfInBounds_toArray, List.set_cons_zero, List.set_cons_succ, i64_w, i32_w]
            rfl
          refine pure_ (i := 20) (N := some 75) (v := ?_) (a' := ?_) #[true, true, true, false, true, false, true, true, true, false, false, false, false, false, true, true, true, false, true, true, true, false, false, false, false, false, false, false, false, false, false, false, false, false, false, false, false, false, false, false, false, false, false, false, false, false] rfl rfl (any_of HT_.out (by kernel_rfl)) (fun _ _ _ h => h) (Or.inl ⟨by rfl, ?_⟩) ?_ ?_
          rotate_left
          · intro w'
            go_simp
            with_reducible rfl
          rotate_left
          · simp only [Act.put, List.setIfInBounds_toArray, List.set_cons_zero, List.set_cons_succ, i64_w, i32_w]
            rfl
          refine pure_ (i := 21) (N := some 76) (v := ?_) (a' := ?_) #[true, true, true, false, true, false, true, true, true, false, false, false, false, false, true, true, true, false, true, true, true, true, false, false, false, false, false, false, false, false, false, false, false, false, false, false, false, false, false, false, false, false, false, false, false, false] rfl rfl (any_of HT_.out (by kernel_rfl)) (fun _ _ _ h => h) (Or.inl ⟨by rfl, ?_⟩) ?_ ?_
          rotate_left
          · intro w'
            go_simp
            with_reducible rfl
          rotate_left
          · simp only [Act.put, List.setIfInBounds_toArray, List.set_cons_zero, List.set_cons_succ, i64_w, i32_w]
            rfl
          refine pure_ (i := 27) (N := some 82) (v := ?_) (a' := ?_) #[true, true, true, false, true, false, true, true, true, false, false, false, false, false, true, true, true, false, true, true, true, true, false, false, false, false, false, true, false, false, false, false, false, false, false, false, false, false, false, false, false, false, false, false, false, false] rfl rfl (any_of HT_.out (by kernel_rfl)) (fun _ _ _ h => h) (Or.inl ⟨by rfl, ?_⟩) ?_ ?_
          rotate_left
          · intro w'
            go_simp
            with_reducible rfl
          rotate_left
          · simp only [Act.put, List.setIfInBounds_toArray, List.set_cons_zero, List.set_cons_succ, i64_w, i32_w]
            rfl
          refine pure_ (i := 28) (N := some 83) (v := ?_) (a' := ?_) #[true, true, true, false, true, false, true, true, true, false, false, false, false, false, true, true, true, false, true, true, true, true, false, false, false, false, false, true, true, false, false, false, false, false, false, false, false, false, false, false, false, false, false, false, false, false] rfl rfl (any_of HT_.out (by kernel_rfl)) (fun _ _ _ h => h) (Or.inl ⟨by rfl, ?_⟩) ?_ ?_
          rotate_left
          · intro w'
            go_simp
            with_reducible rfl
          rotate_left
          · simp only [Act.put, List.setIfInBounds_toArray, List.set_cons_zero, List.set_cons_succ, i64_w, i32_w]
            rfl
          refine pure_ (i := 29) (N := some 84) (v := ?_) (a' := ?_) #[true, true, true, false, true, false, true, true, true, false, false, false, false, false, true, true, true, false, true, true, true, true, false, false, false, false, false, true, true, true, false, false, false, false, false, false, false, false, false, false, false, false, false, false, false, false] rfl rfl (any_of HT_.out (by kernel_rfl)) (fun _ _ _ h => h) (Or.inl ⟨by rfl, ?_⟩) ?_ ?_
          rotate_left
          · intro w'
            go_simp
            with_reducible rfl
          rotate_left
          · simp only [Act.put, List.setIfInBounds_toArray, List.set_cons_zero, List.set_cons_succ, i64_w, i32_w]
            rfl
          refine pure_ (i := 31) (N := some 86) (v := ?_) (a' := ?_) #[true, true, true, false, true, false, true, true, true, false, false, false, false, false, true, true, true, false, true, true, true, true, false, false, false, false, false, true, true, true, false, true, false, false, false, false, false, false, false, false, false, false, false, false, false, false] rfl rfl (any_of HT_.out (by kernel_rfl)) (fun _ _ _ h => h) (Or.inl ⟨by rfl, ?_⟩) ?_ ?_
          rotate_left
          · intro w'
            go_simp
            with_reducible rfl
          rotate_left
          · simp only [Act.put, List.setIfInBounds_toArray, List.set_cons_zero, List.set_cons_succ, i64_w, i32_w]
            rfl
          refine pure_ (i := 32) (N := some 87) (v := ?_) (a' := ?_) #[true, true, true, false, true, false, true, true, true, false, false, false, false, false, true, true, true, false, true, true, true, true, false, false, false, false, false, true, true, true, false, true, true, false, false, false, false, false, false, false, false, false, false, false, false, false] rfl rfl (any_of HT_.out (by kernel_rfl)) (fun _ _ _ h => h) (Or.inl ⟨by rfl, ?_⟩) ?_ ?_
          rotate_left
          · intro w'
            go_simp
            with_reducible rfl
          rotate_left
          · simp only [Act.put, List.setIfInBounds_toArray, List.set_cons_zero, List.set_cons_succ, i64_w, i32_w]
            rfl
          refine pure_ (i := 33) (N := some 88) (v := ?_) (a' := ?_) #[true, true, true, false, true, false, true, true, true, false, false, false, false, false, true, true, true, false, true, true, true, true, false, false, false, false, false, true, true, true, false, true, true, true, false, false, false, false, false, false, false, false, false, false, false, false] rfl rfl (any_of HT_.out (by kernel_rfl)) (fun _ _ _ h => h) (Or.inl ⟨by rfl, ?_⟩) ?_ ?_
          rotate_left
          · intro w'
            go_simp
            with_reducible rfl
          rotate_left
          · simp only [Act.put, List.setIfInBounds_toArray, List.set_cons_zero, List.set_cons_succ, i64_w, i32_w]
            rfl
          refine pure_ (i := 34) (N := some 89) (v := ?_) (a' := ?_) #[true, true, true, false, true, false, true, true, true, false, false, false, false, false, true, true, true, false, true, true, true, true, false, false, false, false, false, true, true, true, false, true, true, true, true, false, false, false, false, false, false, false, false, false, false, false] rfl rfl (any_of HT_.out (by kernel_rfl)) (fun _ _ _ h => h) (Or.inl ⟨by rfl, ?_⟩) ?_ ?_
          rotate_left
          · intro w'
            go_simp
            with_reducible rfl
          rotate_left
          · simp only [Act.put, List.setIfInBounds_toArray, List.set_cons_zero, List.set_cons_succ, i64_w, i32_w]
            rfl
          refine inv_at [3, 5, 9, 10, 11, 12, 13, 17, 22, 23, 24, 25, 26, 30, 35, 36, 37, 38, 39, 40, 41, 42, 43, 44, 45] (fun a0_ b a w' => ∃ (b8 : Nat) (b9 : Nat) (ba : Nat) (m40_ : Value) (m41_ : Value) (m42_ : Value), a = putSel a0_ b [(3, 58, .slice (some ad) all.length c), (5, 60, .int .i64 r1), (9, 64, .slice (some ad) all.length c), (10, 65, .int .i64 (all.length : Int)), (11, 66, .int .i64 (Int.tmod r1 (all.length : Int))), (12, 67, .pointer (some (ad.add ((Int.tmod r1 (all.length : Int)).toNat * 2)))), (13, 68, .agg #[.int .i64 (rd all (Int.tmod r1 (all.length : Int))), .int .i64 (rd all (Int.tmod r1 (all.length : Int)))]), (17, 72, .slice (some ad) all.length c), (22, 77, .slice (some ad) all.length c), (23, 78, .int .i64 (all.length : Int)), (24, 79, .int .i64 r2), (25, 80, .pointer (some (ad.add ((r2).toNat * 2)))), (26, 81, .agg #[.int .i64 (rd all (r2)), .int .i64 (rd all (r2))]), (30, 85, .slice (some ad) all.length c), (35, 90, .slice (some ad) all.length c), (36, 91, .int .i64 (all.length : Int)), (37, 92, .int .i64 r3), (38, 93, .pointer (some (ad.add ((r3).toNat * 2)))), (39, 94, .agg #[.int .i64 (rd all (r3)), .int .i64 (rd all (r3))]), (40, 8, m40_), (41, 9, m41_), (42, 10, m42_)] ∧ (MkAt w0.heap.size w' G S S' (some ad) c ns ns all) ∧ (Below w0.heap.size w0 w') ∧ (b8 < w'.heap.size) ∧ (b9 < w'.heap.size) ∧ (ba < w'.heap.size) ∧ (b 5 = false → IsS71 w0 w' C l at_) ∧ (b 5 = true → b 24 = false → IsS71 w0 w' C l at1) ∧ (b 24 = true → b 37 = false → IsS71 w0 w' C l at2) ∧ (b 37 = true → IsS71 w0 w' C l at3) ∧ (b 40 = true → b 43 = false → w'.heap[b8]? = some (Obj.cells #[.int .i64 0, .int .i64 0] 32 (0, 0))) ∧ (b 43 = true → w'.heap[b8]? = some (boxP (rd all (Int.tmod r1 (all.length : Int))))) ∧ (b 40 = true → some b8 ≠ (Value.slice (some ad) all.length c).ownBlock) ∧ (b 40 = true → w0.heap.size ≤ b8) ∧ (b 41 = true → b 44 = false → w'.heap[b9]? = some (Obj.cells #[.int .i64 0, .int .i64 0] 32 (0, 0))) ∧ (b 44 = true → w'.heap[b9]? = some (boxP (rd all (r2)))) ∧ (b 41 = true → some b9 ≠ (Value.slice (some ad) all.length c).ownBlock) ∧ (b 41 = true → w0.heap.size ≤ b9) ∧ (b 42 = true → b 45 = false → w'.heap[ba]? = some (Obj.cells #[.int .i64 0, .int .i64 0] 32 (0, 0))) ∧ (b 45 = true → w'.heap[ba]? = some (boxP (rd all (r3)))) ∧ (b 42 = true → some ba ≠ (Value.slice (some ad) all.length c).ownBlock) ∧ (b 42 = true → w0.heap.size ≤ ba) ∧ (b 40 = true → b 41 = true → b8 ≠ b9) ∧ (b 40 = true → b 42 = true → b8 ≠ ba) ∧ (b 41 = true → b 42 = true → b9 ≠ ba) ∧ (b 40 = true → (m40_ : Value) = .pointer (some ⟨b8, 0, none⟩)) ∧ (b 41 = true → (m41_ : Value) = .pointer (some ⟨b9, 0, none⟩)) ∧ (b 42 = true → (m42_ : Value) = .pointer (some ⟨ba, 0, none⟩))) HT_.out HW_.out (by kernel_rfl) (by kernel_rfl) ?_ ?_ ?_
          · exact ⟨0, 0, 0, .bool false, .bool false, .bool false, by simp only [putSel, Bool.false_eq_true, if_false], M.out, LB.out, L8.out, L9.out, La.out, fun _ => C0.out, fun h_ => absurd h_ (by decide), fun h_ => absurd h_ (by decide), fun h_ => absurd h_ (by decide), fun h_ => absurd h_ (by decide), fun h_ => absurd h_ (by decide), fun h_ => absurd h_ (by decide), fun h_ => absurd h_ (by decide), fun h_ => absurd h_ (by decide), fun h_ => absurd h_ (by decide), fun h_ => absurd h_ (by decide), fun h_ => absurd h_ (by decide), fun h_ => absurd h_ (by decide), fun h_ => absurd h_ (by decide), fun h_ => absurd h_ (by decide), fun h_ => absurd h_ (by decide), fun h_ => absurd h_ (by decide), fun h_ => absurd h_ (by decide), fun h_ => absurd h_ (by decide), fun h_ => absurd h_ (by decide), fun h_ => absurd h_ (by decide), fun h_ => absurd h_ (by decide)⟩
          · skip
            clear C0 L8 L9 LB La M
            refine steps_cons ?_ ?_
            · as_aux_lemma =>
              rintro b a w' ⟨b8, b9, ba, m40_, m41_, m42_, ha, Q_M, Q_LB, Q_L8, Q_L9, Q_La, Q_C0, Q_C1, Q_C2, Q_C3, Q_X8, Q_Y8, Q_R8, Q_E8, Q_X9, Q_Y9, Q_R9, Q_E9, Q_Xa, Q_Ya, Q_Ra, Q_Ea, Q_N89, Q_N8a, Q_N9a, Q_X40_, Q_X41_, Q_X42_⟩ hb_ hon hoff
              refine ⟨_, rfl, fun K hK => ?_⟩
              have e57 : a.tmps[57]? = some (.pointer (some ⟨G, 2, none⟩)) := by rw [ha]; exact (putSel_off rfl).trans rfl
              replace ha := Aside0.mk ha
              have M := Aside0.mk Q_M
              have LB := Aside0.mk Q_LB
              have L8 := Aside0.mk Q_L8
              have L9 := Aside0.mk Q_L9
              have La := Aside0.mk Q_La
              have q2 := M.out.c2
              refine value_ (w1 := w') (v := .slice (some ad) all.length c) (by rfl) rfl ?_ ?_
              · go_simp
                (try simp only [i64_w])
                try rfl
              refine hK.out _ _ ⟨b8, b9, ba, m40_, m41_, m42_, (by rw [ha.out]; exact putSel_upk 0 hb_ rfl rfl rfl), Q_M, Q_LB, Q_L8, Q_L9, Q_La, Q_C0, Q_C1, Q_C2, Q_C3, Q_X8, fun h0_ => absurd ((hoff 43 (by kernel_rfl)).symm.trans h0_) (by decide), Q_R8, Q_E8, Q_X9, fun h0_ => absurd ((hoff 44 (by kernel_rfl)).symm.trans h0_) (by decide), Q_R9, Q_E9, Q_Xa, fun h0_ => absurd ((hoff 45 (by kernel_rfl)).symm.trans h0_) (by decide), Q_Ra, Q_Ea, Q_N89, Q_N8a, Q_N9a, Q_X40_, Q_X41_, Q_X42_⟩
            refine steps_cons ?_ ?_
            · as_aux_lemma =>
              rintro b a w' ⟨b8, b9, ba, m40_, m41_, m42_, ha, Q_M, Q_LB, Q_L8, Q_L9, Q_La, Q_C0, Q_C1, Q_C2, Q_C3, Q_X8, Q_Y8, Q_R8, Q_E8, Q_X9, Q_Y9, Q_R9, Q_E9, Q_Xa, Q_Ya, Q_Ra, Q_Ea, Q_N89, Q_N8a, Q_N9a, Q_X40_, Q_X41_, Q_X42_⟩ hb_ hon hoff
              refine ⟨_, rfl, fun K hK => ?_⟩
              have e59 : a.tmps[59]? = some (.pointer (some ⟨C, 0, none⟩)) := by rw [ha]; exact (putSel_off rfl).trans rfl
              replace ha := Aside0.mk ha
              have M := Aside0.mk Q_M
              have LB := Aside0.mk Q_LB
              have L8 := Aside0.mk Q_L8
              have L9 := Aside0.mk Q_L9
              have La := Aside0.mk Q_La
              have C0 := Aside0.mk (Q_C0 hb_)
              refine goes_ Try.func37 (by kernel_rfl) rfl #[.pointer (some ⟨C, 0, none⟩), .int .i64 65536] (by rfl) rfl rfl (by first | (simp only [List.map_toArray, List.map_cons, List.map_nil, Act.eval, Array.getD_eq_getD_getElem?, Option.getD_some, e59]; done) | (simp only [List.map_toArray, List.map_cons, List.map_nil, Act.eval, Array.getD_eq_getD_getElem?, Option.getD_some, e59]; rfl)) ?_
              refine (flagstonedraw_Codes_Wide.calls C l at_ 65536 r1 at1 w0 w' C0.out LB.out HE1.out).mono ?_
              rintro e wN ⟨rfl, hi, hb, hk⟩
              refine ⟨_, rfl, ?_⟩
              refine hK.out _ _ ⟨b8, b9, ba, m40_, m41_, m42_, (by rw [ha.out]; exact putSel_upk 1 hb_ rfl rfl rfl), (M.out.codes C0.out hk (below_between LB.out hb hk.1)), hb, (Nat.lt_of_lt_of_le L8.out hk.1), (Nat.lt_of_lt_of_le L9.out hk.1), (Nat.lt_of_lt_of_le La.out hk.1), fun h0_ => absurd ((up_self b 5).symm.trans h0_) (by decide), fun _ _ => hi, fun h0_ _ => absurd ((hoff 24 (by kernel_rfl)).symm.trans h0_) (by decide), fun h0_ => absurd ((hoff 37 (by kernel_rfl)).symm.trans h0_) (by decide), fun h0_ h1_ => (box_codes C0.out hk (Q_X8 h0_ h1_)), fun h0_ => absurd ((hoff 43 (by kernel_rfl)).symm.trans h0_) (by decide), Q_R8, Q_E8, fun h0_ h1_ => (box_codes C0.out hk (Q_X9 h0_ h1_)), fun h0_ => absurd ((hoff 44 (by kernel_rfl)).symm.trans h0_) (by decide), Q_R9, Q_E9, fun h0_ h1_ => (box_codes C0.out hk (Q_Xa h0_ h1_)), fun h0_ => absurd ((hoff 45 (by kernel_rfl)).symm.trans h0_) (by decide), Q_Ra, Q_Ea, Q_N89, Q_N8a, Q_N9a, Q_X40_, Q_X41_, Q_X42_⟩
            refine steps_cons ?_ ?_
            · as_aux_lemma =>
              rintro b a w' ⟨b8, b9, ba, m40_, m41_, m42_, ha, Q_M, Q_LB, Q_L8, Q_L9, Q_La, Q_C0, Q_C1, Q_C2, Q_C3, Q_X8, Q_Y8, Q_R8, Q_E8, Q_X9, Q_Y9, Q_R9, Q_E9, Q_Xa, Q_Ya, Q_Ra, Q_Ea, Q_N89, Q_N8a, Q_N9a, Q_X40_, Q_X41_, Q_X42_⟩ hb_ hon hoff
              refine ⟨_, rfl, fun K hK => ?_⟩
              have e63 : a.tmps[63]? = some (.pointer (some ⟨G, 2, none⟩)) := by rw [ha]; exact (putSel_off rfl).trans rfl
              replace ha := Aside0.mk ha
              have M := Aside0.mk Q_M
              have LB := Aside0.mk Q_LB
              have L8 := Aside0.mk Q_L8
              have L9 := Aside0.mk Q_L9
              have La := Aside0.mk Q_La
              have q2 := M.out.c2
              refine value_ (w1 := w') (v := .slice (some ad) all.length c) (by rfl) rfl ?_ ?_
              · go_simp
                (try simp only [i64_w])
                try rfl
              refine hK.out _ _ ⟨b8, b9, ba, m40_, m41_, m42_, (by rw [ha.out]; exact putSel_upk 2 hb_ rfl rfl rfl), Q_M, Q_LB, Q_L8, Q_L9, Q_La, Q_C0, Q_C1, Q_C2, Q_C3, Q_X8, fun h0_ => absurd ((hoff 43 (by kernel_rfl)).symm.trans h0_) (by decide), Q_R8, Q_E8, Q_X9, fun h0_ => absurd ((hoff 44 (by kernel_rfl)).symm.trans h0_) (by decide), Q_R9, Q_E9, Q_Xa, fun h0_ => absurd ((hoff 45 (by kernel_rfl)).symm.trans h0_) (by decide), Q_Ra, Q_Ea, Q_N89, Q_N8a, Q_N9a, Q_X40_, Q_X41_, Q_X42_⟩
            refine steps_cons ?_ ?_
            · as_aux_lemma =>
              rintro b a w' ⟨b8, b9, ba, m40_, m41_, m42_, ha, Q_M, Q_LB, Q_L8, Q_L9, Q_La, Q_C0, Q_C1, Q_C2, Q_C3, Q_X8, Q_Y8, Q_R8, Q_E8, Q_X9, Q_Y9, Q_R9, Q_E9, Q_Xa, Q_Ya, Q_Ra, Q_Ea, Q_N89, Q_N8a, Q_N9a, Q_X40_, Q_X41_, Q_X42_⟩ hb_ hon hoff
              refine ⟨_, rfl, fun K hK => ?_⟩
              have e64 : a.tmps[64]? = some (.slice (some ad) all.length c) := by rw [ha]; exact putSel_on (e := (9, 64, .slice (some ad) all.length c)) 2 rfl rfl (hon 9 (by kernel_rfl)) rfl
              replace ha := Aside0.mk ha
              have M := Aside0.mk Q_M
              have LB := Aside0.mk Q_LB
              have L8 := Aside0.mk Q_L8
              have L9 := Aside0.mk Q_L9
              have La := Aside0.mk Q_La
              refine value_ (w1 := w') (v := .int .i64 (all.length : Int)) (by rfl) rfl ?_ ?_
              · go_simp
                (try simp only [i64_w])
                try rfl
              refine hK.out _ _ ⟨b8, b9, ba, m40_, m41_, m42_, (by rw [ha.out]; exact putSel_upk 3 hb_ rfl rfl rfl), Q_M, Q_LB, Q_L8, Q_L9, Q_La, Q_C0, Q_C1, Q_C2, Q_C3, Q_X8, fun h0_ => absurd ((hoff 43 (by kernel_rfl)).symm.trans h0_) (by decide), Q_R8, Q_E8, Q_X9, fun h0_ => absurd ((hoff 44 (by kernel_rfl)).symm.trans h0_) (by decide), Q_R9, Q_E9, Q_Xa, fun h0_ => absurd ((hoff 45 (by kernel_rfl)).symm.trans h0_) (by decide), Q_Ra, Q_Ea, Q_N89, Q_N8a, Q_N9a, Q_X40_, Q_X41_, Q_X42_⟩
            refine steps_cons ?_ ?_
            · as_aux_lemma =>
              rintro b a w' ⟨b8, b9, ba, m40_, m41_, m42_, ha, Q_M, Q_LB, Q_L8, Q_L9, Q_La, Q_C0, Q_C1, Q_C2, Q_C3, Q_X8, Q_Y8, Q_R8, Q_E8, Q_X9, Q_Y9, Q_R9, Q_E9, Q_Xa, Q_Ya, Q_Ra, Q_Ea, Q_N89, Q_N8a, Q_N9a, Q_X40_, Q_X41_, Q_X42_⟩ hb_ hon hoff
              refine ⟨_, rfl, fun K hK => ?_⟩
              have e60 : a.tmps[60]? = some (.int .i64 r1) := by rw [ha]; exact putSel_on (e := (5, 60, .int .i64 r1)) 1 rfl rfl (hon 5 (by kernel_rfl)) rfl
              have e65 : a.tmps[65]? = some (.int .i64 (all.length : Int)) := by rw [ha]; exact putSel_on (e := (10, 65, .int .i64 (all.length : Int))) 3 rfl rfl (hon 10 (by kernel_rfl)) rfl
              replace ha := Aside0.mk ha
              have M := Aside0.mk Q_M
              have LB := Aside0.mk Q_LB
              have L8 := Aside0.mk Q_L8
              have L9 := Aside0.mk Q_L9
              have La := Aside0.mk Q_La
              refine value_ (w1 := w') (v := .int .i64 (Int.tmod r1 (all.length : Int))) (by rfl) rfl ?_ ?_
              · go_simp
                (try simp only [i64_w])
                try rfl
              refine hK.out _ _ ⟨b8, b9, ba, m40_, m41_, m42_, (by rw [ha.out]; exact putSel_upk 4 hb_ rfl rfl rfl), Q_M, Q_LB, Q_L8, Q_L9, Q_La, fun h0_ => absurd ((hon 5 (by kernel_rfl)).symm.trans h0_) (by decide), Q_C1, Q_C2, Q_C3, Q_X8, fun h0_ => absurd ((hoff 43 (by kernel_rfl)).symm.trans h0_) (by decide), Q_R8, Q_E8, Q_X9, fun h0_ => absurd ((hoff 44 (by kernel_rfl)).symm.trans h0_) (by decide), Q_R9, Q_E9, Q_Xa, fun h0_ => absurd ((hoff 45 (by kernel_rfl)).symm.trans h0_) (by decide), Q_Ra, Q_Ea, Q_N89, Q_N8a, Q_N9a, Q_X40_, Q_X41_, Q_X42_⟩
            refine steps_cons ?_ ?_
            · as_aux_lemma =>
              rintro b a w' ⟨b8, b9, ba, m40_, m41_, m42_, ha, Q_M, Q_LB, Q_L8, Q_L9, Q_La, Q_C0, Q_C1, Q_C2, Q_C3, Q_X8, Q_Y8, Q_R8, Q_E8, Q_X9, Q_Y9, Q_R9, Q_E9, Q_Xa, Q_Ya, Q_Ra, Q_Ea, Q_N89, Q_N8a, Q_N9a, Q_X40_, Q_X41_, Q_X42_⟩ hb_ hon hoff
              refine ⟨_, rfl, fun K hK => ?_⟩
              have e58 : a.tmps[58]? = some (.slice (some ad) all.length c) := by rw [ha]; exact putSel_on (e := (3, 58, .slice (some ad) all.length c)) 0 rfl rfl (hon 3 (by kernel_rfl)) rfl
              have e66 : a.tmps[66]? = some (.int .i64 (Int.tmod r1 (all.length : Int))) := by rw [ha]; exact putSel_on (e := (11, 66, .int .i64 (Int.tmod r1 (all.length : Int)))) 4 rfl rfl (hon 11 (by kernel_rfl)) rfl
              replace ha := Aside0.mk ha
              have M := Aside0.mk Q_M
              have LB := Aside0.mk Q_LB
              have L8 := Aside0.mk Q_L8
              have L9 := Aside0.mk Q_L9
              have La := Aside0.mk Q_La
              refine value_ (w1 := w') (v := .pointer (some (ad.add ((Int.tmod r1 (all.length : Int)).toNat * 2)))) (by rfl) rfl ?_ ?_
              · go_simp
                (try simp only [i64_w])
                try rfl
              refine hK.out _ _ ⟨b8, b9, ba, m40_, m41_, m42_, (by rw [ha.out]; exact putSel_upk 5 hb_ rfl rfl rfl), Q_M, Q_LB, Q_L8, Q_L9, Q_La, fun h0_ => absurd ((hon 5 (by kernel_rfl)).symm.trans h0_) (by decide), Q_C1, Q_C2, Q_C3, Q_X8, fun h0_ => absurd ((hoff 43 (by kernel_rfl)).symm.trans h0_) (by decide), Q_R8, Q_E8, Q_X9, fun h0_ => absurd ((hoff 44 (by kernel_rfl)).symm.trans h0_) (by decide), Q_R9, Q_E9, Q_Xa, fun h0_ => absurd ((hoff 45 (by kernel_rfl)).symm.trans h0_) (by decide), Q_Ra, Q_Ea, Q_N89, Q_N8a, Q_N9a, Q_X40_, Q_X41_, Q_X42_⟩
            refine steps_cons ?_ ?_
            · as_aux_lemma =>
              rintro b a w' ⟨b8, b9, ba, m40_, m41_, m42_, ha, Q_M, Q_LB, Q_L8, Q_L9, Q_La, Q_C0, Q_C1, Q_C2, Q_C3, Q_X8, Q_Y8, Q_R8, Q_E8, Q_X9, Q_Y9, Q_R9, Q_E9, Q_Xa, Q_Ya, Q_Ra, Q_Ea, Q_N89, Q_N8a, Q_N9a, Q_X40_, Q_X41_, Q_X42_⟩ hb_ hon hoff
              refine ⟨_, rfl, fun K hK => ?_⟩
              have e67 : a.tmps[67]? = some (.pointer (some (ad.add ((Int.tmod r1 (all.length : Int)).toNat * 2)))) := by rw [ha]; exact putSel_on (e := (12, 67, .pointer (some (ad.add ((Int.tmod r1 (all.length : Int)).toNat * 2))))) 5 rfl rfl (hon 12 (by kernel_rfl)) rfl
              replace ha := Aside0.mk ha
              have M := Aside0.mk Q_M
              have LB := Aside0.mk Q_LB
              have L8 := Aside0.mk Q_L8
              have L9 := Aside0.mk Q_L9
              have La := Aside0.mk Q_La
              obtain ⟨ad', ea, hx0, hx1⟩ := at_T32 (Kd.R_reads' M.out.row).2.2 (Int.tmod r1 (all.length : Int)) p1 p2
              injection ea with ea
              subst ea
              refine value_ (w1 := w') (v := .agg #[.int .i64 (rd all (Int.tmod r1 (all.length : Int))), .int .i64 (rd all (Int.tmod r1 (all.length : Int)))]) (by rfl) rfl ?_ ?_
              · go_simp
                (try simp only [i64_w])
                try rfl
              refine hK.out _ _ ⟨b8, b9, ba, m40_, m41_, m42_, (by rw [ha.out]; exact putSel_upk 6 hb_ rfl rfl rfl), Q_M, Q_LB, Q_L8, Q_L9, Q_La, fun h0_ => absurd ((hon 5 (by kernel_rfl)).symm.trans h0_) (by decide), Q_C1, Q_C2, Q_C3, Q_X8, fun h0_ => absurd ((hoff 43 (by kernel_rfl)).symm.trans h0_) (by decide), Q_R8, Q_E8, Q_X9, fun h0_ => absurd ((hoff 44 (by kernel_rfl)).symm.trans h0_) (by decide), Q_R9, Q_E9, Q_Xa, fun h0_ => absurd ((hoff 45 (by kernel_rfl)).symm.trans h0_) (by decide), Q_Ra, Q_Ea, Q_N89, Q_N8a, Q_N9a, Q_X40_, Q_X41_, Q_X42_⟩
            refine steps_cons ?_ ?_
            · as_aux_lemma =>
              rintro b a w' ⟨b8, b9, ba, m40_, m41_, m42_, ha, Q_M, Q_LB, Q_L8, Q_L9, Q_La, Q_C0, Q_C1, Q_C2, Q_C3, Q_X8, Q_Y8, Q_R8, Q_E8, Q_X9, Q_Y9, Q_R9, Q_E9, Q_Xa, Q_Ya, Q_Ra, Q_Ea, Q_N89, Q_N8a, Q_N9a, Q_X40_, Q_X41_, Q_X42_⟩ hb_ hon hoff
              refine ⟨_, rfl, fun K hK => ?_⟩
              have e71 : a.tmps[71]? = some (.pointer (some ⟨G, 2, none⟩)) := by rw [ha]; exact (putSel_off rfl).trans rfl
              replace ha := Aside0.mk ha
              have M := Aside0.mk Q_M
              have LB := Aside0.mk Q_LB
              have L8 := Aside0.mk Q_L8
              have L9 := Aside0.mk Q_L9
              have La := Aside0.mk Q_La
              have q2 := M.out.c2
              refine value_ (w1 := w') (v := .slice (some ad) all.length c) (by rfl) rfl ?_ ?_
              · go_simp
                (try simp only [i64_w])
                try rfl
              refine hK.out _ _ ⟨b8, b9, ba, m40_, m41_, m42_, (by rw [ha.out]; exact putSel_upk 7 hb_ rfl rfl rfl), Q_M, Q_LB, Q_L8, Q_L9, Q_La, Q_C0, Q_C1, Q_C2, Q_C3, Q_X8, Q_Y8, Q_R8, Q_E8, Q_X9, fun h0_ => absurd ((hoff 44 (by kernel_rfl)).symm.trans h0_) (by decide), Q_R9, Q_E9, Q_Xa, fun h0_ => absurd ((hoff 45 (by kernel_rfl)).symm.trans h0_) (by decide), Q_Ra, Q_Ea, Q_N89, Q_N8a, Q_N9a, Q_X40_, Q_X41_, Q_X42_⟩
            refine steps_cons ?_ ?_
            · as_aux_lemma =>
              rintro b a w' ⟨b8, b9, ba, m40_, m41_, m42_, ha, Q_M, Q_LB, Q_L8, Q_L9, Q_La, Q_C0, Q_C1, Q_C2, Q_C3, Q_X8, Q_Y8, Q_R8, Q_E8, Q_X9, Q_Y9, Q_R9, Q_E9, Q_Xa, Q_Ya, Q_Ra, Q_Ea, Q_N89, Q_N8a, Q_N9a, Q_X40_, Q_X41_, Q_X42_⟩ hb_ hon hoff
              refine ⟨_, rfl, fun K hK => ?_⟩
              have e76 : a.tmps[76]? = some (.pointer (some ⟨G, 2, none⟩)) := by rw [ha]; exact (putSel_off rfl).trans rfl
              replace ha := Aside0.mk ha
              have M := Aside0.mk Q_M
              have LB := Aside0.mk Q_LB
              have L8 := Aside0.mk Q_L8
              have L9 := Aside0.mk Q_L9
              have La := Aside0.mk Q_La
              have q2 := M.out.c2
              refine value_ (w1 := w') (v := .slice (some ad) all.length c) (by rfl) rfl ?_ ?_
              · go_simp
                (try simp only [i64_w])
                try rfl
              refine hK.out _ _ ⟨b8, b9, ba, m40_, m41_, m42_, (by rw [ha.out]; exact putSel_upk 8 hb_ rfl rfl rfl), Q_M, Q_LB, Q_L8, Q_L9, Q_La, Q_C0, Q_C1, fun h0_ _ => absurd ((hoff 24 (by kernel_rfl)).symm.trans h0_) (by decide), fun h0_ => absurd ((hoff 37 (by kernel_rfl)).symm.trans h0_) (by decide), Q_X8, fun h0_ => absurd ((hoff 43 (by kernel_rfl)).symm.trans h0_) (by decide), Q_R8, Q_E8, Q_X9, fun h0_ => absurd ((hoff 44 (by kernel_rfl)).symm.trans h0_) (by decide), Q_R9, Q_E9, Q_Xa, fun h0_ => absurd ((hoff 45 (by kernel_rfl)).symm.trans h0_) (by decide), Q_Ra, Q_Ea, Q_N89, Q_N8a, Q_N9a, Q_X40_, Q_X41_, Q_X42_⟩
            refine steps_cons ?_ ?_
            · as_aux_lemma =>
              rintro b a w' ⟨b8, b9, ba, m40_, m41_, m42_, ha, Q_M, Q_LB, Q_L8, Q_L9, Q_La, Q_C0, Q_C1, Q_C2, Q_C3, Q_X8, Q_Y8, Q_R8, Q_E8, Q_X9, Q_Y9, Q_R9, Q_E9, Q_Xa, Q_Ya, Q_Ra, Q_Ea, Q_N89, Q_N8a, Q_N9a, Q_X40_, Q_X41_, Q_X42_⟩ hb_ hon hoff
              refine ⟨_, rfl, fun K hK => ?_⟩
              have e77 : a.tmps[77]? = some (.slice (some ad) all.length c) := by rw [ha]; exact putSel_on (e := (22, 77, .slice (some ad) all.length c)) 8 rfl rfl (hon 22 (by kernel_rfl)) rfl
              replace ha := Aside0.mk ha
              have M := Aside0.mk Q_M
              have LB := Aside0.mk Q_LB
              have L8 := Aside0.mk Q_L8
              have L9 := Aside0.mk Q_L9
              have La := Aside0.mk Q_La
              refine value_ (w1 := w') (v := .int .i64 (all.length : Int)) (by rfl) rfl ?_ ?_
              · go_simp
                (try simp only [i64_w])
                try rfl
              refine hK.out _ _ ⟨b8, b9, ba, m40_, m41_, m42_, (by rw [ha.out]; exact putSel_upk 9 hb_ rfl rfl rfl), Q_M, Q_LB, Q_L8, Q_L9, Q_La, Q_C0, Q_C1, fun h0_ _ => absurd ((hoff 24 (by kernel_rfl)).symm.trans h0_) (by decide), fun h0_ => absurd ((hoff 37 (by kernel_rfl)).symm.trans h0_) (by decide), Q_X8, fun h0_ => absurd ((hoff 43 (by kernel_rfl)).symm.trans h0_) (by decide), Q_R8, Q_E8, Q_X9, fun h0_ => absurd ((hoff 44 (by kernel_rfl)).symm.trans h0_) (by decide), Q_R9, Q_E9, Q_Xa, fun h0_ => absurd ((hoff 45 (by kernel_rfl)).symm.trans h0_) (by decide), Q_Ra, Q_Ea, Q_N89, Q_N8a, Q_N9a, Q_X40_, Q_X41_, Q_X42_⟩
            refine steps_cons ?_ ?_
            · as_aux_lemma =>
              rintro b a w' ⟨b8, b9, ba, m40_, m41_, m42_, ha, Q_M, Q_LB, Q_L8, Q_L9, Q_La, Q_C0, Q_C1, Q_C2, Q_C3, Q_X8, Q_Y8, Q_R8, Q_E8, Q_X9, Q_Y9, Q_R9, Q_E9, Q_Xa, Q_Ya, Q_Ra, Q_Ea, Q_N89, Q_N8a, Q_N9a, Q_X40_, Q_X41_, Q_X42_⟩ hb_ hon hoff
              refine ⟨_, rfl, fun K hK => ?_⟩
              have e73 : a.tmps[73]? = some (.pointer (some ⟨C, 0, none⟩)) := by rw [ha]; exact (putSel_off rfl).trans rfl
              have e78 : a.tmps[78]? = some (.int .i64 (all.length : Int)) := by rw [ha]; exact putSel_on (e := (23, 78, .int .i64 (all.length : Int))) 9 rfl rfl (hon 23 (by kernel_rfl)) rfl
              replace ha := Aside0.mk ha
              have M := Aside0.mk Q_M
              have LB := Aside0.mk Q_LB
              have L8 := Aside0.mk Q_L8
              have L9 := Aside0.mk Q_L9
              have La := Aside0.mk Q_La
              have C1 := Aside0.mk (Q_C1 (hon 5 (by kernel_rfl)) hb_)
              refine goes_ Try.func38 (by kernel_rfl) rfl #[.pointer (some ⟨C, 0, none⟩), .int .i64 (all.length : Int)] (by rfl) rfl rfl (by first | (simp only [List.map_toArray, List.map_cons, List.map_nil, Act.eval, Array.getD_eq_getD_getElem?, Option.getD_some, e73, e78]; done) | (simp only [List.map_toArray, List.map_cons, List.map_nil, Act.eval, Array.getD_eq_getD_getElem?, Option.getD_some, e73, e78]; rfl)) ?_
              refine (flagstonedraw_Codes_Next.calls C l at1 (all.length : Int) r2 at2 w0 w' C1.out LB.out HE2.out).mono ?_
              rintro e wN ⟨rfl, hi, hb, hk⟩
              refine ⟨_, rfl, ?_⟩
              refine hK.out _ _ ⟨b8, b9, ba, m40_, m41_, m42_, (by rw [ha.out]; exact putSel_upk 10 hb_ rfl rfl rfl), (M.out.codes C1.out hk (below_between LB.out hb hk.1)), hb, (Nat.lt_of_lt_of_le L8.out hk.1), (Nat.lt_of_lt_of_le L9.out hk.1), (Nat.lt_of_lt_of_le La.out hk.1), fun h0_ => absurd ((hon 5 (by kernel_rfl)).symm.trans h0_) (by decide), fun _ h1_ => absurd ((up_self b 24).symm.trans h1_) (by decide), fun _ _ => hi, fun h0_ => absurd ((hoff 37 (by kernel_rfl)).symm.trans h0_) (by decide), fun h0_ h1_ => (box_codes C1.out hk (Q_X8 h0_ h1_)), fun h0_ => absurd ((hoff 43 (by kernel_rfl)).symm.trans h0_) (by decide), Q_R8, Q_E8, fun h0_ h1_ => (box_codes C1.out hk (Q_X9 h0_ h1_)), fun h0_ => absurd ((hoff 44 (by kernel_rfl)).symm.trans h0_) (by decide), Q_R9, Q_E9, fun h0_ h1_ => (box_codes C1.out hk (Q_Xa h0_ h1_)), fun h0_ => absurd ((hoff 45 (by kernel_rfl)).symm.trans h0_) (by decide), Q_Ra, Q_Ea, Q_N89, Q_N8a, Q_N9a, Q_X40_, Q_X41_, Q_X42_⟩
            refine steps_cons ?_ ?_
            · as_aux_lemma =>
              rintro b a w' ⟨b8, b9, ba, m40_, m41_, m42_, ha, Q_M, Q_LB, Q_L8, Q_L9, Q_La, Q_C0, Q_C1, Q_C2, Q_C3, Q_X8, Q_Y8, Q_R8, Q_E8, Q_X9, Q_Y9, Q_R9, Q_E9, Q_Xa, Q_Ya, Q_Ra, Q_Ea, Q_N89, Q_N8a, Q_N9a, Q_X40_, Q_X41_, Q_X42_⟩ hb_ hon hoff
              refine ⟨_, rfl, fun K hK => ?_⟩
              have e72 : a.tmps[72]? = some (.slice (some ad) all.length c) := by rw [ha]; exact putSel_on (e := (17, 72, .slice (some ad) all.length c)) 7 rfl rfl (hon 17 (by kernel_rfl)) rfl
              have e79 : a.tmps[79]? = some (.int .i64 r2) := by rw [ha]; exact putSel_on (e := (24, 79, .int .i64 r2)) 10 rfl rfl (hon 24 (by kernel_rfl)) rfl
              replace ha := Aside0.mk ha
              have M := Aside0.mk Q_M
              have LB := Aside0.mk Q_LB
              have L8 := Aside0.mk Q_L8
              have L9 := Aside0.mk Q_L9
              have La := Aside0.mk Q_La
              refine value_ (w1 := w') (v := .pointer (some (ad.add ((r2).toNat * 2)))) (by rfl) rfl ?_ ?_
              · go_simp
                (try simp only [i64_w])
                try rfl
              refine hK.out _ _ ⟨b8, b9, ba, m40_, m41_, m42_, (by rw [ha.out]; exact putSel_upk 11 hb_ rfl rfl rfl), Q_M, Q_LB, Q_L8, Q_L9, Q_La, fun h0_ => absurd ((hon 5 (by kernel_rfl)).symm.trans h0_) (by decide), fun _ h1_ => absurd ((hon 24 (by kernel_rfl)).symm.trans h1_) (by decide), Q_C2, Q_C3, Q_X8, Q_Y8, Q_R8, Q_E8, Q_X9, fun h0_ => absurd ((hoff 44 (by kernel_rfl)).symm.trans h0_) (by decide), Q_R9, Q_E9, Q_Xa, fun h0_ => absurd ((hoff 45 (by kernel_rfl)).symm.trans h0_) (by decide), Q_Ra, Q_Ea, Q_N89, Q_N8a, Q_N9a, Q_X40_, Q_X41_, Q_X42_⟩
            refine steps_cons ?_ ?_
            · as_aux_lemma =>
              rintro b a w' ⟨b8, b9, ba, m40_, m41_, m42_, ha, Q_M, Q_LB, Q_L8, Q_L9, Q_La, Q_C0, Q_C1, Q_C2, Q_C3, Q_X8, Q_Y8, Q_R8, Q_E8, Q_X9, Q_Y9, Q_R9, Q_E9, Q_Xa, Q_Ya, Q_Ra, Q_Ea, Q_N89, Q_N8a, Q_N9a, Q_X40_, Q_X41_, Q_X42_⟩ hb_ hon hoff
              refine ⟨_, rfl, fun K hK => ?_⟩
              have e80 : a.tmps[80]? = some (.pointer (some (ad.add ((r2).toNat * 2)))) := by rw [ha]; exact putSel_on (e := (25, 80, .pointer (some (ad.add ((r2).toNat * 2))))) 11 rfl rfl (hon 25 (by kernel_rfl)) rfl
              replace ha := Aside0.mk ha
              have M := Aside0.mk Q_M
              have LB := Aside0.mk Q_LB
              have L8 := Aside0.mk Q_L8
              have L9 := Aside0.mk Q_L9
              have La := Aside0.mk Q_La
              obtain ⟨ad', ea, hx0, hx1⟩ := at_T32 (Kd.R_reads' M.out.row).2.2 (r2) a2 b2
              injection ea with ea
              subst ea
              refine value_ (w1 := w') (v := .agg #[.int .i64 (rd all (r2)), .int .i64 (rd all (r2))]) (by rfl) rfl ?_ ?_
              · go_simp
                (try simp only [i64_w])
                try rfl
              refine hK.out _ _ ⟨b8, b9, ba, m40_, m41_, m42_, (by rw [ha.out]; exact putSel_upk 12 hb_ rfl rfl rfl), Q_M, Q_LB, Q_L8, Q_L9, Q_La, fun h0_ => absurd ((hon 5 (by kernel_rfl)).symm.trans h0_) (by decide), fun _ h1_ => absurd ((hon 24 (by kernel_rfl)).symm.trans h1_) (by decide), Q_C2, Q_C3, Q_X8, Q_Y8, Q_R8, Q_E8, Q_X9, fun h0_ => absurd ((hoff 44 (by kernel_rfl)).symm.trans h0_) (by decide), Q_R9, Q_E9, Q_Xa, fun h0_ => absurd ((hoff 45 (by kernel_rfl)).symm.trans h0_) (by decide), Q_Ra, Q_Ea, Q_N89, Q_N8a, Q_N9a, Q_X40_, Q_X41_, Q_X42_⟩
            refine steps_cons ?_ ?_
            · as_aux_lemma =>
              rintro b a w' ⟨b8, b9, ba, m40_, m41_, m42_, ha, Q_M, Q_LB, Q_L8, Q_L9, Q_La, Q_C0, Q_C1, Q_C2, Q_C3, Q_X8, Q_Y8, Q_R8, Q_E8, Q_X9, Q_Y9, Q_R9, Q_E9, Q_Xa, Q_Ya, Q_Ra, Q_Ea, Q_N89, Q_N8a, Q_N9a, Q_X40_, Q_X41_, Q_X42_⟩ hb_ hon hoff
              refine ⟨_, rfl, fun K hK => ?_⟩
              have e84 : a.tmps[84]? = some (.pointer (some ⟨G, 2, none⟩)) := by rw [ha]; exact (putSel_off rfl).trans rfl
              replace ha := Aside0.mk ha
              have M := Aside0.mk Q_M
              have LB := Aside0.mk Q_LB
              have L8 := Aside0.mk Q_L8
              have L9 := Aside0.mk Q_L9
              have La := Aside0.mk Q_La
              have q2 := M.out.c2
              refine value_ (w1 := w') (v := .slice (some ad) all.length c) (by rfl) rfl ?_ ?_
              · go_simp
                (try simp only [i64_w])
                try rfl
              refine hK.out _ _ ⟨b8, b9, ba, m40_, m41_, m42_, (by rw [ha.out]; exact putSel_upk 13 hb_ rfl rfl rfl), Q_M, Q_LB, Q_L8, Q_L9, Q_La, Q_C0, Q_C1, Q_C2, Q_C3, Q_X8, Q_Y8, Q_R8, Q_E8, Q_X9, Q_Y9, Q_R9, Q_E9, Q_Xa, fun h0_ => absurd ((hoff 45 (by kernel_rfl)).symm.trans h0_) (by decide), Q_Ra, Q_Ea, Q_N89, Q_N8a, Q_N9a, Q_X40_, Q_X41_, Q_X42_⟩
            refine steps_cons ?_ ?_
            · as_aux_lemma =>
              rintro b a w' ⟨b8, b9, ba, m40_, m41_, m42_, ha, Q_M, Q_LB, Q_L8, Q_L9, Q_La, Q_C0, Q_C1, Q_C2, Q_C3, Q_X8, Q_Y8, Q_R8, Q_E8, Q_X9, Q_Y9, Q_R9, Q_E9, Q_Xa, Q_Ya, Q_Ra, Q_Ea, Q_N89, Q_N8a, Q_N9a, Q_X40_, Q_X41_, Q_X42_⟩ hb_ hon hoff
              refine ⟨_, rfl, fun K hK => ?_⟩
              have e89 : a.tmps[89]? = some (.pointer (some ⟨G, 2, none⟩)) := by rw [ha]; exact (putSel_off rfl).trans rfl
              replace ha := Aside0.mk ha
              have M := Aside0.mk Q_M
              have LB := Aside0.mk Q_LB
              have L8 := Aside0.mk Q_L8
              have L9 := Aside0.mk Q_L9
              have La := Aside0.mk Q_La
              have q2 := M.out.c2
              refine value_ (w1 := w') (v := .slice (some ad) all.length c) (by rfl) rfl ?_ ?_
              · go_simp
                (try simp only [i64_w])
                try rfl
              refine hK.out _ _ ⟨b8, b9, ba, m40_, m41_, m42_, (by rw [ha.out]; exact putSel_upk 14 hb_ rfl rfl rfl), Q_M, Q_LB, Q_L8, Q_L9, Q_La, Q_C0, Q_C1, Q_C2, fun h0_ => absurd ((hoff 37 (by kernel_rfl)).symm.trans h0_) (by decide), Q_X8, fun h0_ => absurd ((hoff 43 (by kernel_rfl)).symm.trans h0_) (by decide), Q_R8, Q_E8, Q_X9, fun h0_ => absurd ((hoff 44 (by kernel_rfl)).symm.trans h0_) (by decide), Q_R9, Q_E9, Q_Xa, fun h0_ => absurd ((hoff 45 (by kernel_rfl)).symm.trans h0_) (by decide), Q_Ra, Q_Ea, Q_N89, Q_N8a, Q_N9a, Q_X40_, Q_X41_, Q_X42_⟩
            refine steps_cons ?_ ?_
            · as_aux_lemma =>
              rintro b a w' ⟨b8, b9, ba, m40_, m41_, m42_, ha, Q_M, Q_LB, Q_L8, Q_L9, Q_La, Q_C0, Q_C1, Q_C2, Q_C3, Q_X8, Q_Y8, Q_R8, Q_E8, Q_X9, Q_Y9, Q_R9, Q_E9, Q_Xa, Q_Ya, Q_Ra, Q_Ea, Q_N89, Q_N8a, Q_N9a, Q_X40_, Q_X41_, Q_X42_⟩ hb_ hon hoff
              refine ⟨_, rfl, fun K hK => ?_⟩
              have e90 : a.tmps[90]? = some (.slice (some ad) all.length c) := by rw [ha]; exact putSel_on (e := (35, 90, .slice (some ad) all.length c)) 14 rfl rfl (hon 35 (by kernel_rfl)) rfl
              replace ha := Aside0.mk ha
              have M := Aside0.mk Q_M
              have LB := Aside0.mk Q_LB
              have L8 := Aside0.mk Q_L8
              have L9 := Aside0.mk Q_L9
              have La := Aside0.mk Q_La
              refine value_ (w1 := w') (v := .int .i64 (all.length : Int)) (by rfl) rfl ?_ ?_
              · go_simp
                (try simp only [i64_w])
                try rfl
              refine hK.out _ _ ⟨b8, b9, ba, m40_, m41_, m42_, (by rw [ha.out]; exact putSel_upk 15 hb_ rfl rfl rfl), Q_M, Q_LB, Q_L8, Q_L9, Q_La, Q_C0, Q_C1, Q_C2, fun h0_ => absurd ((hoff 37 (by kernel_rfl)).symm.trans h0_) (by decide), Q_X8, fun h0_ => absurd ((hoff 43 (by kernel_rfl)).symm.trans h0_) (by decide), Q_R8, Q_E8, Q_X9, fun h0_ => absurd ((hoff 44 (by kernel_rfl)).symm.trans h0_) (by decide), Q_R9, Q_E9, Q_Xa, fun h0_ => absurd ((hoff 45 (by kernel_rfl)).symm.trans h0_) (by decide), Q_Ra, Q_Ea, Q_N89, Q_N8a, Q_N9a, Q_X40_, Q_X41_, Q_X42_⟩
            refine steps_cons ?_ ?_
            · as_aux_lemma =>
              rintro b a w' ⟨b8, b9, ba, m40_, m41_, m42_, ha, Q_M, Q_LB, Q_L8, Q_L9, Q_La, Q_C0, Q_C1, Q_C2, Q_C3, Q_X8, Q_Y8, Q_R8, Q_E8, Q_X9, Q_Y9, Q_R9, Q_E9, Q_Xa, Q_Ya, Q_Ra, Q_Ea, Q_N89, Q_N8a, Q_N9a, Q_X40_, Q_X41_, Q_X42_⟩ hb_ hon hoff
              refine ⟨_, rfl, fun K hK => ?_⟩
              have e86 : a.tmps[86]? = some (.pointer (some ⟨C, 0, none⟩)) := by rw [ha]; exact (putSel_off rfl).trans rfl
              have e91 : a.tmps[91]? = some (.int .i64 (all.length : Int)) := by rw [ha]; exact putSel_on (e := (36, 91, .int .i64 (all.length : Int))) 15 rfl rfl (hon 36 (by kernel_rfl)) rfl
              replace ha := Aside0.mk ha
              have M := Aside0.mk Q_M
              have LB := Aside0.mk Q_LB
              have L8 := Aside0.mk Q_L8
              have L9 := Aside0.mk Q_L9
              have La := Aside0.mk Q_La
              have C2 := Aside0.mk (Q_C2 (hon 24 (by kernel_rfl)) hb_)
              refine goes_ Try.func38 (by kernel_rfl) rfl #[.pointer (some ⟨C, 0, none⟩), .int .i64 (all.length : Int)] (by rfl) rfl rfl (by first | (simp only [List.map_toArray, List.map_cons, List.map_nil, Act.eval, Array.getD_eq_getD_getElem?, Option.getD_some, e86, e91]; done) | (simp only [List.map_toArray, List.map_cons, List.map_nil, Act.eval, Array.getD_eq_getD_getElem?, Option.getD_some, e86, e91]; rfl)) ?_
              refine (flagstonedraw_Codes_Next.calls C l at2 (all.length : Int) r3 at3 w0 w' C2.out LB.out HE3.out).mono ?_
              rintro e wN ⟨rfl, hi, hb, hk⟩
              refine ⟨_, rfl, ?_⟩
              refine hK.out _ _ ⟨b8, b9, ba, m40_, m41_, m42_, (by rw [ha.out]; exact putSel_upk 16 hb_ rfl rfl rfl), (M.out.codes C2.out hk (below_between LB.out hb hk.1)), hb, (Nat.lt_of_lt_of_le L8.out hk.1), (Nat.lt_of_lt_of_le L9.out hk.1), (Nat.lt_of_lt_of_le La.out hk.1), fun h0_ => absurd ((hon 5 (by kernel_rfl)).symm.trans h0_) (by decide), fun _ h1_ => absurd ((hon 24 (by kernel_rfl)).symm.trans h1_) (by decide), fun _ h1_ => absurd ((up_self b 37).symm.trans h1_) (by decide), fun _ => hi, fun h0_ h1_ => (box_codes C2.out hk (Q_X8 h0_ h1_)), fun h0_ => absurd ((hoff 43 (by kernel_rfl)).symm.trans h0_) (by decide), Q_R8, Q_E8, fun h0_ h1_ => (box_codes C2.out hk (Q_X9 h0_ h1_)), fun h0_ => absurd ((hoff 44 (by kernel_rfl)).symm.trans h0_) (by decide), Q_R9, Q_E9, fun h0_ h1_ => (box_codes C2.out hk (Q_Xa h0_ h1_)), fun h0_ => absurd ((hoff 45 (by kernel_rfl)).symm.trans h0_) (by decide), Q_Ra, Q_Ea, Q_N89, Q_N8a, Q_N9a, Q_X40_, Q_X41_, Q_X42_⟩
            refine steps_cons ?_ ?_
            · as_aux_lemma =>
              rintro b a w' ⟨b8, b9, ba, m40_, m41_, m42_, ha, Q_M, Q_LB, Q_L8, Q_L9, Q_La, Q_C0, Q_C1, Q_C2, Q_C3, Q_X8, Q_Y8, Q_R8, Q_E8, Q_X9, Q_Y9, Q_R9, Q_E9, Q_Xa, Q_Ya, Q_Ra, Q_Ea, Q_N89, Q_N8a, Q_N9a, Q_X40_, Q_X41_, Q_X42_⟩ hb_ hon hoff
              refine ⟨_, rfl, fun K hK => ?_⟩
              have e85 : a.tmps[85]? = some (.slice (some ad) all.length c) := by rw [ha]; exact putSel_on (e := (30, 85, .slice (some ad) all.length c)) 13 rfl rfl (hon 30 (by kernel_rfl)) rfl
              have e92 : a.tmps[92]? = some (.int .i64 r3) := by rw [ha]; exact putSel_on (e := (37, 92, .int .i64 r3)) 16 rfl rfl (hon 37 (by kernel_rfl)) rfl
              replace ha := Aside0.mk ha
              have M := Aside0.mk Q_M
              have LB := Aside0.mk Q_LB
              have L8 := Aside0.mk Q_L8
              have L9 := Aside0.mk Q_L9
              have La := Aside0.mk Q_La
              have C3 := Aside0.mk (Q_C3 (hon 37 (by kernel_rfl)))
              refine value_ (w1 := w') (v := .pointer (some (ad.add ((r3).toNat * 2)))) (by rfl) rfl ?_ ?_
              · go_simp
                (try simp only [i64_w])
                try rfl
              refine hK.out _ _ ⟨b8, b9, ba, m40_, m41_, m42_, (by rw [ha.out]; exact putSel_upk 17 hb_ rfl rfl rfl), Q_M, Q_LB, Q_L8, Q_L9, Q_La, fun h0_ => absurd ((hon 5 (by kernel_rfl)).symm.trans h0_) (by decide), fun _ h1_ => absurd ((hon 24 (by kernel_rfl)).symm.trans h1_) (by decide), fun _ h1_ => absurd ((hon 37 (by kernel_rfl)).symm.trans h1_) (by decide), Q_C3, Q_X8, Q_Y8, Q_R8, Q_E8, Q_X9, Q_Y9, Q_R9, Q_E9, Q_Xa, fun h0_ => absurd ((hoff 45 (by kernel_rfl)).symm.trans h0_) (by decide), Q_Ra, Q_Ea, Q_N89, Q_N8a, Q_N9a, Q_X40_, Q_X41_, Q_X42_⟩
            refine steps_cons ?_ ?_
            · as_aux_lemma =>
              rintro b a w' ⟨b8, b9, ba, m40_, m41_, m42_, ha, Q_M, Q_LB, Q_L8, Q_L9, Q_La, Q_C0, Q_C1, Q_C2, Q_C3, Q_X8, Q_Y8, Q_R8, Q_E8, Q_X9, Q_Y9, Q_R9, Q_E9, Q_Xa, Q_Ya, Q_Ra, Q_Ea, Q_N89, Q_N8a, Q_N9a, Q_X40_, Q_X41_, Q_X42_⟩ hb_ hon hoff
              refine ⟨_, rfl, fun K hK => ?_⟩
              have e93 : a.tmps[93]? = some (.pointer (some (ad.add ((r3).toNat * 2)))) := by rw [ha]; exact putSel_on (e := (38, 93, .pointer (some (ad.add ((r3).toNat * 2))))) 17 rfl rfl (hon 38 (by kernel_rfl)) rfl
              replace ha := Aside0.mk ha
              have M := Aside0.mk Q_M
              have LB := Aside0.mk Q_LB
              have L8 := Aside0.mk Q_L8
              have L9 := Aside0.mk Q_L9
              have La := Aside0.mk Q_La
              have C3 := Aside0.mk (Q_C3 (hon 37 (by kernel_rfl)))
              obtain ⟨ad', ea, hx0, hx1⟩ := at_T32 (Kd.R_reads' M.out.row).2.2 (r3) a3 b3
              injection ea with ea
              subst ea
              refine value_ (w1 := w') (v := .agg #[.int .i64 (rd all (r3)), .int .i64 (rd all (r3))]) (by rfl) rfl ?_ ?_
              · go_simp
                (try simp only [i64_w])
                try rfl
              refine hK.out _ _ ⟨b8, b9, ba, m40_, m41_, m42_, (by rw [ha.out]; exact putSel_upk 18 hb_ rfl rfl rfl), Q_M, Q_LB, Q_L8, Q_L9, Q_La, fun h0_ => absurd ((hon 5 (by kernel_rfl)).symm.trans h0_) (by decide), fun _ h1_ => absurd ((hon 24 (by kernel_rfl)).symm.trans h1_) (by decide), fun _ h1_ => absurd ((hon 37 (by kernel_rfl)).symm.trans h1_) (by decide), Q_C3, Q_X8, Q_Y8, Q_R8, Q_E8, Q_X9, Q_Y9, Q_R9, Q_E9, Q_Xa, fun h0_ => absurd ((hoff 45 (by kernel_rfl)).symm.trans h0_) (by decide), Q_Ra, Q_Ea, Q_N89, Q_N8a, Q_N9a, Q_X40_, Q_X41_, Q_X42_⟩
            refine steps_cons ?_ ?_
            · as_aux_lemma =>
              rintro b a w' ⟨b8, b9, ba, m40_, m41_, m42_, ha, Q_M, Q_LB, Q_L8, Q_L9, Q_La, Q_C0, Q_C1, Q_C2, Q_C3, Q_X8, Q_Y8, Q_R8, Q_E8, Q_X9, Q_Y9, Q_R9, Q_E9, Q_Xa, Q_Ya, Q_Ra, Q_Ea, Q_N89, Q_N8a, Q_N9a, Q_X40_, Q_X41_, Q_X42_⟩ hb_ hon hoff
              refine ⟨_, rfl, fun K hK => ?_⟩
              replace ha := Aside0.mk ha
              have M := Aside0.mk Q_M
              have LB := Aside0.mk Q_LB
              have L8 := Aside0.mk Q_L8
              have L9 := Aside0.mk Q_L9
              have La := Aside0.mk Q_La
              refine value_ (w1 := w'.alloc (.cells #[.int .i64 0, .int .i64 0] 32)) (v := .pointer (some ⟨w'.heap.size, 0, none⟩)) (by rfl) rfl ?_ ?_
              · first | (go_simp; done) | (go_simp; rfl)
              refine hK.out _ _ ⟨w'.heap.size, b9, ba, (.pointer (some ⟨w'.heap.size, 0, none⟩)), m41_, m42_, (by rw [ha.out]; exact putSel_upk 19 hb_ rfl rfl rfl), (M.out.below ((Below.refl _ _).alloc (Nat.le_refl _) _)), (LB.out.alloc LB.out.size _), (by simp), (Nat.lt_of_lt_of_le L9.out (by simp)), (Nat.lt_of_lt_of_le La.out (by simp)), fun h0_ => ((Q_C0 h0_).alloc _), fun h0_ h1_ => ((Q_C1 h0_ h1_).alloc _), fun h0_ h1_ => ((Q_C2 h0_ h1_).alloc _), fun h0_ => ((Q_C3 h0_).alloc _), fun _ _ => (by simpa using blk_new w' (.cells #[.int .i64 0, .int .i64 0] 32)), fun h0_ => absurd ((hoff 43 (by kernel_rfl)).symm.trans h0_) (by decide), fun _ => (fun e => by have := Kd.R_lt M.out.row _ e.symm; omega), fun _ => LB.out.size, fun h0_ h1_ => (blk_alloc (Q_X9 h0_ h1_) _), fun h0_ => absurd ((hoff 44 (by kernel_rfl)).symm.trans h0_) (by decide), Q_R9, Q_E9, fun h0_ h1_ => (blk_alloc (Q_Xa h0_ h1_) _), fun h0_ => absurd ((hoff 45 (by kernel_rfl)).symm.trans h0_) (by decide), Q_Ra, Q_Ea, fun _ _ => (fun e => by have := L9.out; omega), fun _ _ => (fun e => by have := La.out; omega), Q_N9a, fun _ => rfl, Q_X41_, Q_X42_⟩
            refine steps_cons ?_ ?_
            · as_aux_lemma =>
              rintro b a w' ⟨b8, b9, ba, m40_, m41_, m42_, ha, Q_M, Q_LB, Q_L8, Q_L9, Q_La, Q_C0, Q_C1, Q_C2, Q_C3, Q_X8, Q_Y8, Q_R8, Q_E8, Q_X9, Q_Y9, Q_R9, Q_E9, Q_Xa, Q_Ya, Q_Ra, Q_Ea, Q_N89, Q_N8a, Q_N9a, Q_X40_, Q_X41_, Q_X42_⟩ hb_ hon hoff
              refine ⟨_, rfl, fun K hK => ?_⟩
              replace ha := Aside0.mk ha
              have M := Aside0.mk Q_M
              have LB := Aside0.mk Q_LB
              have L8 := Aside0.mk Q_L8
              have L9 := Aside0.mk Q_L9
              have La := Aside0.mk Q_La
              refine value_ (w1 := w'.alloc (.cells #[.int .i64 0, .int .i64 0] 32)) (v := .pointer (some ⟨w'.heap.size, 0, none⟩)) (by rfl) rfl ?_ ?_
              · first | (go_simp; done) | (go_simp; rfl)
              refine hK.out _ _ ⟨b8, w'.heap.size, ba, m40_, (.pointer (some ⟨w'.heap.size, 0, none⟩)), m42_, (by rw [ha.out]; exact putSel_upk 20 hb_ rfl rfl rfl), (M.out.below ((Below.refl _ _).alloc (Nat.le_refl _) _)), (LB.out.alloc LB.out.size _), (Nat.lt_of_lt_of_le L8.out (by simp)), (by simp), (Nat.lt_of_lt_of_le La.out (by simp)), fun h0_ => ((Q_C0 h0_).alloc _), fun h0_ h1_ => ((Q_C1 h0_ h1_).alloc _), fun h0_ h1_ => ((Q_C2 h0_ h1_).alloc _), fun h0_ => ((Q_C3 h0_).alloc _), fun h0_ h1_ => (blk_alloc (Q_X8 h0_ h1_) _), fun h0_ => absurd ((hoff 43 (by kernel_rfl)).symm.trans h0_) (by decide), Q_R8, Q_E8, fun _ _ => (by simpa using blk_new w' (.cells #[.int .i64 0, .int .i64 0] 32)), fun h0_ => absurd ((hoff 44 (by kernel_rfl)).symm.trans h0_) (by decide), fun _ => (fun e => by have := Kd.R_lt M.out.row _ e.symm; omega), fun _ => LB.out.size, fun h0_ h1_ => (blk_alloc (Q_Xa h0_ h1_) _), fun h0_ => absurd ((hoff 45 (by kernel_rfl)).symm.trans h0_) (by decide), Q_Ra, Q_Ea, fun _ _ => (fun e => by have := L8.out; omega), Q_N8a, fun _ _ => (fun e => by have := La.out; omega), Q_X40_, fun _ => rfl, Q_X42_⟩
            refine steps_cons ?_ ?_
            · as_aux_lemma =>
              rintro b a w' ⟨b8, b9, ba, m40_, m41_, m42_, ha, Q_M, Q_LB, Q_L8, Q_L9, Q_La, Q_C0, Q_C1, Q_C2, Q_C3, Q_X8, Q_Y8, Q_R8, Q_E8, Q_X9, Q_Y9, Q_R9, Q_E9, Q_Xa, Q_Ya, Q_Ra, Q_Ea, Q_N89, Q_N8a, Q_N9a, Q_X40_, Q_X41_, Q_X42_⟩ hb_ hon hoff
              refine ⟨_, rfl, fun K hK => ?_⟩
              replace ha := Aside0.mk ha
              have M := Aside0.mk Q_M
              have LB := Aside0.mk Q_LB
              have L8 := Aside0.mk Q_L8
              have L9 := Aside0.mk Q_L9
              have La := Aside0.mk Q_La
              refine value_ (w1 := w'.alloc (.cells #[.int .i64 0, .int .i64 0] 32)) (v := .pointer (some ⟨w'.heap.size, 0, none⟩)) (by rfl) rfl ?_ ?_
              · first | (go_simp; done) | (go_simp; rfl)
              refine hK.out _ _ ⟨b8, b9, w'.heap.size, m40_, m41_, (.pointer (some ⟨w'.heap.size, 0, none⟩)), (by rw [ha.out]; exact putSel_upk 21 hb_ rfl rfl rfl), (M.out.below ((Below.refl _ _).alloc (Nat.le_refl _) _)), (LB.out.alloc LB.out.size _), (Nat.lt_of_lt_of_le L8.out (by simp)), (Nat.lt_of_lt_of_le L9.out (by simp)), (by simp), fun h0_ => ((Q_C0 h0_).alloc _), fun h0_ h1_ => ((Q_C1 h0_ h1_).alloc _), fun h0_ h1_ => ((Q_C2 h0_ h1_).alloc _), fun h0_ => ((Q_C3 h0_).alloc _), fun h0_ h1_ => (blk_alloc (Q_X8 h0_ h1_) _), fun h0_ => absurd ((hoff 43 (by kernel_rfl)).symm.trans h0_) (by decide), Q_R8, Q_E8, fun h0_ h1_ => (blk_alloc (Q_X9 h0_ h1_) _), fun h0_ => absurd ((hoff 44 (by kernel_rfl)).symm.trans h0_) (by decide), Q_R9, Q_E9, fun _ _ => (by simpa using blk_new w' (.cells #[.int .i64 0, .int .i64 0] 32)), fun h0_ => absurd ((hoff 45 (by kernel_rfl)).symm.trans h0_) (by decide), fun _ => (fun e => by have := Kd.R_lt M.out.row _ e.symm; omega), fun _ => LB.out.size, Q_N89, fun _ _ => (fun e => by have := L8.out; omega), fun _ _ => (fun e => by have := L9.out; omega), Q_X40_, Q_X41_, fun _ => rfl⟩
            refine steps_cons ?_ ?_
            · as_aux_lemma =>
              rintro b a w' ⟨b8, b9, ba, m40_, m41_, m42_, ha, Q_M, Q_LB, Q_L8, Q_L9, Q_La, Q_C0, Q_C1, Q_C2, Q_C3, Q_X8, Q_Y8, Q_R8, Q_E8, Q_X9, Q_Y9, Q_R9, Q_E9, Q_Xa, Q_Ya, Q_Ra, Q_Ea, Q_N89, Q_N8a, Q_N9a, Q_X40_, Q_X41_, Q_X42_⟩ hb_ hon hoff
              refine ⟨_, rfl, fun K hK => ?_⟩
              have e8 : a.tmps[8]? = some (m40_) := by rw [ha]; exact putSel_on (e := (40, 8, m40_)) 19 rfl rfl (hon 40 (by kernel_rfl)) rfl
              rw [Q_X40_ (hon 40 (by kernel_rfl))] at e8
              have e68 : a.tmps[68]? = some (.agg #[.int .i64 (rd all (Int.tmod r1 (all.length : Int))), .int .i64 (rd all (Int.tmod r1 (all.length : Int)))]) := by rw [ha]; exact putSel_on (e := (13, 68, .agg #[.int .i64 (rd all (Int.tmod r1 (all.length : Int))), .int .i64 (rd all (Int.tmod r1 (all.length : Int)))])) 6 rfl rfl (hon 13 (by kernel_rfl)) rfl
              replace ha := Aside0.mk ha
              have M := Aside0.mk Q_M
              have LB := Aside0.mk Q_LB
              have L8 := Aside0.mk Q_L8
              have L9 := Aside0.mk Q_L9
              have La := Aside0.mk Q_La
              have C3 := Aside0.mk (Q_C3 (hon 37 (by kernel_rfl)))
              have X8 := Aside0.mk (Q_X8 (hon 40 (by kernel_rfl)) hb_)
              have R8 := Aside0.mk (Q_R8 (hon 40 (by kernel_rfl)))
              have E8 := Aside0.mk (Q_E8 (hon 40 (by kernel_rfl)))
              have X9 := Aside0.mk (Q_X9 (hon 41 (by kernel_rfl)) (hoff 44 (by kernel_rfl)))
              have R9 := Aside0.mk (Q_R9 (hon 41 (by kernel_rfl)))
              have E9 := Aside0.mk (Q_E9 (hon 41 (by kernel_rfl)))
              have Xa := Aside0.mk (Q_Xa (hon 42 (by kernel_rfl)) (hoff 45 (by kernel_rfl)))
              have Ra := Aside0.mk (Q_Ra (hon 42 (by kernel_rfl)))
              have Ea := Aside0.mk (Q_Ea (hon 42 (by kernel_rfl)))
              have N89 := Aside0.mk (Q_N89 (hon 40 (by kernel_rfl)) (hon 41 (by kernel_rfl)))
              have N8a := Aside0.mk (Q_N8a (hon 40 (by kernel_rfl)) (hon 42 (by kernel_rfl)))
              have N9a := Aside0.mk (Q_N9a (hon 41 (by kernel_rfl)) (hon 42 (by kernel_rfl)))
              have hs0 : w'.cell? ⟨b8, 0, none⟩ = some (.int .i64 0) := (blk_cell X8.out 0).trans rfl
              have hs1 : w'.cell? ⟨b8, 1, none⟩ = some (.int .i64 0) := (blk_cell X8.out 1).trans rfl
              have hf0 := blk_frozen X8.out 0
              have hf1 := blk_frozen X8.out 1
              refine skip_ (w1 := ((w'.setCell ⟨b8, 0, none⟩ (.int .i64 (rd all (Int.tmod r1 (all.length : Int))))).setCell ⟨b8, 1, none⟩ (.int .i64 (rd all (Int.tmod r1 (all.length : Int)))))) (by rfl) rfl ?_ ?_
              · first | (go_simp; done) | (go_simp; rfl)
              have hfr : Fr w' ((w'.setCell ⟨b8, 0, none⟩ (.int .i64 (rd all (Int.tmod r1 (all.length : Int))))).setCell ⟨b8, 1, none⟩ (.int .i64 (rd all (Int.tmod r1 (all.length : Int))))) (fun k => k = b8) := ((Fr.refl w' (fun k => k = b8)).setCell (p := ⟨b8, 0, none⟩) (.inl rfl) _).setCell (p := ⟨b8, 1, none⟩) (.inl rfl) _
              have hy : ((w'.setCell ⟨b8, 0, none⟩ (.int .i64 (rd all (Int.tmod r1 (all.length : Int))))).setCell ⟨b8, 1, none⟩ (.int .i64 (rd all (Int.tmod r1 (all.length : Int))))).heap[b8]? = some (boxP (rd all (Int.tmod r1 (all.length : Int)))) := blk_put (blk_put X8.out 0 _ rfl) 1 _ rfl
              refine hK.out _ _ ⟨b8, b9, ba, m40_, m41_, m42_, (by rw [ha.out]; exact putSel_none (v := undef) rfl), (M.out.far X8.out R8.out hfr), ((LB.out.setCell (p := ⟨b8, 0, none⟩) E8.out _).setCell (p := ⟨b8, 1, none⟩) E8.out _), (Nat.lt_of_lt_of_le L8.out hfr.size), (Nat.lt_of_lt_of_le L9.out hfr.size), (Nat.lt_of_lt_of_le La.out hfr.size), fun h0_ => absurd ((hon 5 (by kernel_rfl)).symm.trans h0_) (by decide), fun _ h1_ => absurd ((hon 24 (by kernel_rfl)).symm.trans h1_) (by decide), fun _ h1_ => absurd ((hon 37 (by kernel_rfl)).symm.trans h1_) (by decide), fun _ => (C3.out.farB X8.out hfr), fun _ h1_ => absurd ((up_self b 43).symm.trans h1_) (by decide), fun _ => hy, Q_R8, Q_E8, fun _ _ => ((hfr.blk b9 (blk_lt X9.out) (fun e => N89.out e.symm)).trans X9.out), fun h0_ => absurd ((hoff 44 (by kernel_rfl)).symm.trans h0_) (by decide), Q_R9, Q_E9, fun _ _ => ((hfr.blk ba (blk_lt Xa.out) (fun e => N8a.out e.symm)).trans Xa.out), fun h0_ => absurd ((hoff 45 (by kernel_rfl)).symm.trans h0_) (by decide), Q_Ra, Q_Ea, Q_N89, Q_N8a, Q_N9a, Q_X40_, Q_X41_, Q_X42_⟩
            refine steps_cons ?_ ?_
            · as_aux_lemma =>
              rintro b a w' ⟨b8, b9, ba, m40_, m41_, m42_, ha, Q_M, Q_LB, Q_L8, Q_L9, Q_La, Q_C0, Q_C1, Q_C2, Q_C3, Q_X8, Q_Y8, Q_R8, Q_E8, Q_X9, Q_Y9, Q_R9, Q_E9, Q_Xa, Q_Ya, Q_Ra, Q_Ea, Q_N89, Q_N8a, Q_N9a, Q_X40_, Q_X41_, Q_X42_⟩ hb_ hon hoff
              refine ⟨_, rfl, fun K hK => ?_⟩
              have e9 : a.tmps[9]? = some (m41_) := by rw [ha]; exact putSel_on (e := (41, 9, m41_)) 20 rfl rfl (hon 41 (by kernel_rfl)) rfl
              rw [Q_X41_ (hon 41 (by kernel_rfl))] at e9
              have e81 : a.tmps[81]? = some (.agg #[.int .i64 (rd all (r2)), .int .i64 (rd all (r2))]) := by rw [ha]; exact putSel_on (e := (26, 81, .agg #[.int .i64 (rd all (r2)), .int .i64 (rd all (r2))])) 12 rfl rfl (hon 26 (by kernel_rfl)) rfl
              replace ha := Aside0.mk ha
              have M := Aside0.mk Q_M
              have LB := Aside0.mk Q_LB
              have L8 := Aside0.mk Q_L8
              have L9 := Aside0.mk Q_L9
              have La := Aside0.mk Q_La
              have C3 := Aside0.mk (Q_C3 (hon 37 (by kernel_rfl)))
              have Y8 := Aside0.mk (Q_Y8 (hon 43 (by kernel_rfl)))
              have R8 := Aside0.mk (Q_R8 (hon 40 (by kernel_rfl)))
              have E8 := Aside0.mk (Q_E8 (hon 40 (by kernel_rfl)))
              have X9 := Aside0.mk (Q_X9 (hon 41 (by kernel_rfl)) hb_)
              have R9 := Aside0.mk (Q_R9 (hon 41 (by kernel_rfl)))
              have E9 := Aside0.mk (Q_E9 (hon 41 (by kernel_rfl)))
              have Xa := Aside0.mk (Q_Xa (hon 42 (by kernel_rfl)) (hoff 45 (by kernel_rfl)))
              have Ra := Aside0.mk (Q_Ra (hon 42 (by kernel_rfl)))
              have Ea := Aside0.mk (Q_Ea (hon 42 (by kernel_rfl)))
              have N89 := Aside0.mk (Q_N89 (hon 40 (by kernel_rfl)) (hon 41 (by kernel_rfl)))
              have N8a := Aside0.mk (Q_N8a (hon 40 (by kernel_rfl)) (hon 42 (by kernel_rfl)))
              have N9a := Aside0.mk (Q_N9a (hon 41 (by kernel_rfl)) (hon 42 (by kernel_rfl)))
              have hs0 : w'.cell? ⟨b9, 0, none⟩ = some (.int .i64 0) := (blk_cell X9.out 0).trans rfl
              have hs1 : w'.cell? ⟨b9, 1, none⟩ = some (.int .i64 0) := (blk_cell X9.out 1).trans rfl
              have hf0 := blk_frozen X9.out 0
              have hf1 := blk_frozen X9.out 1
              refine skip_ (w1 := ((w'.setCell ⟨b9, 0, none⟩ (.int .i64 (rd all (r2)))).setCell ⟨b9, 1, none⟩ (.int .i64 (rd all (r2))))) (by rfl) rfl ?_ ?_
              · first | (go_simp; done) | (go_simp; rfl)
              have hfr : Fr w' ((w'.setCell ⟨b9, 0, none⟩ (.int .i64 (rd all (r2)))).setCell ⟨b9, 1, none⟩ (.int .i64 (rd all (r2)))) (fun k => k = b9) := ((Fr.refl w' (fun k => k = b9)).setCell (p := ⟨b9, 0, none⟩) (.inl rfl) _).setCell (p := ⟨b9, 1, none⟩) (.inl rfl) _
              have hy : ((w'.setCell ⟨b9, 0, none⟩ (.int .i64 (rd all (r2)))).setCell ⟨b9, 1, none⟩ (.int .i64 (rd all (r2)))).heap[b9]? = some (boxP (rd all (r2))) := blk_put (blk_put X9.out 0 _ rfl) 1 _ rfl
              refine hK.out _ _ ⟨b8, b9, ba, m40_, m41_, m42_, (by rw [ha.out]; exact putSel_none (v := undef) rfl), (M.out.far X9.out R9.out hfr), ((LB.out.setCell (p := ⟨b9, 0, none⟩) E9.out _).setCell (p := ⟨b9, 1, none⟩) E9.out _), (Nat.lt_of_lt_of_le L8.out hfr.size), (Nat.lt_of_lt_of_le L9.out hfr.size), (Nat.lt_of_lt_of_le La.out hfr.size), fun h0_ => absurd ((hon 5 (by kernel_rfl)).symm.trans h0_) (by decide), fun _ h1_ => absurd ((hon 24 (by kernel_rfl)).symm.trans h1_) (by decide), fun _ h1_ => absurd ((hon 37 (by kernel_rfl)).symm.trans h1_) (by decide), fun _ => (C3.out.farB X9.out hfr), fun _ h1_ => absurd ((hon 43 (by kernel_rfl)).symm.trans h1_) (by decide), fun _ => ((hfr.blk b8 (blk_lt Y8.out) (fun e => N89.out e)).trans Y8.out), Q_R8, Q_E8, fun _ h1_ => absurd ((up_self b 44).symm.trans h1_) (by decide), fun _ => hy, Q_R9, Q_E9, fun _ _ => ((hfr.blk ba (blk_lt Xa.out) (fun e => N9a.out e.symm)).trans Xa.out), fun h0_ => absurd ((hoff 45 (by kernel_rfl)).symm.trans h0_) (by decide), Q_Ra, Q_Ea, Q_N89, Q_N8a, Q_N9a, Q_X40_, Q_X41_, Q_X42_⟩
            refine steps_cons ?_ ?_
            · as_aux_lemma =>
              rintro b a w' ⟨b8, b9, ba, m40_, m41_, m42_, ha, Q_M, Q_LB, Q_L8, Q_L9, Q_La, Q_C0, Q_C1, Q_C2, Q_C3, Q_X8, Q_Y8, Q_R8, Q_E8, Q_X9, Q_Y9, Q_R9, Q_E9, Q_Xa, Q_Ya, Q_Ra, Q_Ea, Q_N89, Q_N8a, Q_N9a, Q_X40_, Q_X41_, Q_X42_⟩ hb_ hon hoff
              refine ⟨_, rfl, fun K hK => ?_⟩
              have e10 : a.tmps[10]? = some (m42_) := by rw [ha]; exact putSel_on (e := (42, 10, m42_)) 21 rfl rfl (hon 42 (by kernel_rfl)) rfl
              rw [Q_X42_ (hon 42 (by kernel_rfl))] at e10
              have e94 : a.tmps[94]? = some (.agg #[.int .i64 (rd all (r3)), .int .i64 (rd all (r3))]) := by rw [ha]; exact putSel_on (e := (39, 94, .agg #[.int .i64 (rd all (r3)), .int .i64 (rd all (r3))])) 18 rfl rfl (hon 39 (by kernel_rfl)) rfl
              replace ha := Aside0.mk ha
              have M := Aside0.mk Q_M
              have LB := Aside0.mk Q_LB
              have L8 := Aside0.mk Q_L8
              have L9 := Aside0.mk Q_L9
              have La := Aside0.mk Q_La
              have C3 := Aside0.mk (Q_C3 (hon 37 (by kernel_rfl)))
              have Y8 := Aside0.mk (Q_Y8 (hon 43 (by kernel_rfl)))
              have R8 := Aside0.mk (Q_R8 (hon 40 (by kernel_rfl)))
              have E8 := Aside0.mk (Q_E8 (hon 40 (by kernel_rfl)))
              have Y9 := Aside0.mk (Q_Y9 (hon 44 (by kernel_rfl)))
              have R9 := Aside0.mk (Q_R9 (hon 41 (by kernel_rfl)))
              have E9 := Aside0.mk (Q_E9 (hon 41 (by kernel_rfl)))
              have Xa := Aside0.mk (Q_Xa (hon 42 (by kernel_rfl)) hb_)
              have Ra := Aside0.mk (Q_Ra (hon 42 (by kernel_rfl)))
              have Ea := Aside0.mk (Q_Ea (hon 42 (by kernel_rfl)))
              have N89 := Aside0.mk (Q_N89 (hon 40 (by kernel_rfl)) (hon 41 (by kernel_rfl)))
              have N8a := Aside0.mk (Q_N8a (hon 40 (by kernel_rfl)) (hon 42 (by kernel_rfl)))
              have N9a := Aside0.mk (Q_N9a (hon 41 (by kernel_rfl)) (hon 42 (by kernel_rfl)))
              have hs0 : w'.cell? ⟨ba, 0, none⟩ = some (.int .i64 0) := (blk_cell Xa.out 0).trans rfl
              have hs1 : w'.cell? ⟨ba, 1, none⟩ = some (.int .i64 0) := (blk_cell Xa.out 1).trans rfl
              have hf0 := blk_frozen Xa.out 0
              have hf1 := blk_frozen Xa.out 1
              refine skip_ (w1 := ((w'.setCell ⟨ba, 0, none⟩ (.int .i64 (rd all (r3)))).setCell ⟨ba, 1, none⟩ (.int .i64 (rd all (r3))))) (by rfl) rfl ?_ ?_
              · first | (go_simp; done) | (go_simp; rfl)
              have hfr : Fr w' ((w'.setCell ⟨ba, 0, none⟩ (.int .i64 (rd all (r3)))).setCell ⟨ba, 1, none⟩ (.int .i64 (rd all (r3)))) (fun k => k = ba) := ((Fr.refl w' (fun k => k = ba)).setCell (p := ⟨ba, 0, none⟩) (.inl rfl) _).setCell (p := ⟨ba, 1, none⟩) (.inl rfl) _
              have hy : ((w'.setCell ⟨ba, 0, none⟩ (.int .i64 (rd all (r3)))).setCell ⟨ba, 1, none⟩ (.int .i64 (rd all (r3)))).heap[ba]? = some (boxP (rd all (r3))) := blk_put (blk_put Xa.out 0 _ rfl) 1 _ rfl
              refine hK.out _ _ ⟨b8, b9, ba, m40_, m41_, m42_, (by rw [ha.out]; exact putSel_none (v := undef) rfl), (M.out.far Xa.out Ra.out hfr), ((LB.out.setCell (p := ⟨ba, 0, none⟩) Ea.out _).setCell (p := ⟨ba, 1, none⟩) Ea.out _), (Nat.lt_of_lt_of_le L8.out hfr.size), (Nat.lt_of_lt_of_le L9.out hfr.size), (Nat.lt_of_lt_of_le La.out hfr.size), fun h0_ => absurd ((hon 5 (by kernel_rfl)).symm.trans h0_) (by decide), fun _ h1_ => absurd ((hon 24 (by kernel_rfl)).symm.trans h1_) (by decide), fun _ h1_ => absurd ((hon 37 (by kernel_rfl)).symm.trans h1_) (by decide), fun _ => (C3.out.farB Xa.out hfr), fun _ h1_ => absurd ((hon 43 (by kernel_rfl)).symm.trans h1_) (by decide), fun _ => ((hfr.blk b8 (blk_lt Y8.out) (fun e => N8a.out e)).trans Y8.out), Q_R8, Q_E8, fun _ h1_ => absurd ((hon 44 (by kernel_rfl)).symm.trans h1_) (by decide), fun _ => ((hfr.blk b9 (blk_lt Y9.out) (fun e => N9a.out e)).trans Y9.out), Q_R9, Q_E9, fun _ h1_ => absurd ((up_self b 45).symm.trans h1_) (by decide), fun _ => hy, Q_Ra, Q_Ea, Q_N89, Q_N8a, Q_N9a, Q_X40_, Q_X41_, Q_X42_⟩
            exact steps_nil
          rintro b a w7 hall ⟨b8, b9, ba, m40_, m41_, m42_, ha, Q_M, Q_LB, Q_L8, Q_L9, Q_La, Q_C0, Q_C1, Q_C2, Q_C3, Q_X8, Q_Y8, Q_R8, Q_E8, Q_X9, Q_Y9, Q_R9, Q_E9, Q_Xa, Q_Ya, Q_Ra, Q_Ea, Q_N89, Q_N8a, Q_N9a, Q_X40_, Q_X41_, Q_X42_⟩
          clear C0 L8 L9 LB La M
          have hb3_ := hall 3 (by kernel_rfl)
          have hb5_ := hall 5 (by kernel_rfl)
          have hb9_ := hall 9 (by kernel_rfl)
          have hb10_ := hall 10 (by kernel_rfl)
          have hb11_ := hall 11 (by kernel_rfl)
          have hb12_ := hall 12 (by kernel_rfl)
          have hb13_ := hall 13 (by kernel_rfl)
          have hb17_ := hall 17 (by kernel_rfl)
          have hb22_ := hall 22 (by kernel_rfl)
          have hb23_ := hall 23 (by kernel_rfl)
          have hb24_ := hall 24 (by kernel_rfl)
          have hb25_ := hall 25 (by kernel_rfl)
          have hb26_ := hall 26 (by kernel_rfl)
          have hb30_ := hall 30 (by kernel_rfl)
          have hb35_ := hall 35 (by kernel_rfl)
          have hb36_ := hall 36 (by kernel_rfl)
          have hb37_ := hall 37 (by kernel_rfl)
          have hb38_ := hall 38 (by kernel_rfl)
          have hb39_ := hall 39 (by kernel_rfl)
          have hb40_ := hall 40 (by kernel_rfl)
          have hb41_ := hall 41 (by kernel_rfl)
          have hb42_ := hall 42 (by kernel_rfl)
          have hb43_ := hall 43 (by kernel_rfl)
          have hb44_ := hall 44 (by kernel_rfl)
          have hb45_ := hall 45 (by kernel_rfl)
          subst ha
          obtain rfl := Q_X40_ hb40_
          obtain rfl := Q_X41_ hb41_
          obtain rfl := Q_X42_ hb42_
          simp only [putSel, hb3_, hb5_, hb9_, hb10_, hb11_, hb12_, hb13_, hb17_, hb22_, hb23_, hb24_, hb25_, hb26_, hb30_, hb35_, hb36_, hb37_, hb38_, hb39_, hb40_, hb41_, hb42_, hb43_, hb44_, hb45_, if_true, Act.put, List.setIfInBounds_toArray, List.set_cons_zero, List.set_cons_succ]
          have M := Aside0.mk Q_M
          clear Q_M
          have LB := Aside0.mk Q_LB
          clear Q_LB
          have L8 := Aside0.mk Q_L8
          clear Q_L8
          have L9 := Aside0.mk Q_L9
          clear Q_L9
          have La := Aside0.mk Q_La
          clear Q_La
          clear Q_C0
          clear Q_C1
          clear Q_C2
          have C3 := Aside0.mk (Q_C3 hb37_)
          clear Q_C3
          clear Q_X8
          have Y8 := Aside0.mk (Q_Y8 hb43_)
          clear Q_Y8
          have R8 := Aside0.mk (Q_R8 hb40_)
          clear Q_R8
          have E8 := Aside0.mk (Q_E8 hb40_)
          clear Q_E8
          clear Q_X9
          have Y9 := Aside0.mk (Q_Y9 hb44_)
          clear Q_Y9
          have R9 := Aside0.mk (Q_R9 hb41_)
          clear Q_R9
          have E9 := Aside0.mk (Q_E9 hb41_)
          clear Q_E9
          clear Q_Xa
          have Ya := Aside0.mk (Q_Ya hb45_)
          clear Q_Ya
          have Ra := Aside0.mk (Q_Ra hb42_)
          clear Q_Ra
          have Ea := Aside0.mk (Q_Ea hb42_)
          clear Q_Ea
          have N89 := Aside0.mk (Q_N89 hb40_ hb41_)
          clear Q_N89
          have N8a := Aside0.mk (Q_N8a hb40_ hb42_)
          clear Q_N8a
          have N9a := Aside0.mk (Q_N9a hb41_ hb42_)
          clear Q_N9a
          clear hall hb3_ hb5_ hb9_ hb10_ hb11_ hb12_ hb13_ hb17_ hb22_ hb23_ hb24_ hb25_ hb26_ hb30_ hb35_ hb36_ hb37_ hb38_ hb39_ hb40_ hb41_ hb42_ hb43_ hb44_ hb45_
          have HX1 : Aside0 (validN ns (rd all (Int.tmod r1 (all.length : Int))) = true) := ⟨HV.out.allv _ (rd_mem p1 p2)⟩
          have HX2 : Aside0 (validN ns (rd all r2) = true) := ⟨HV.out.allv _ (rd_mem a2 b2)⟩
          have HX3 : Aside0 (validN ns (rd all r3) = true) := ⟨HV.out.allv _ (rd_mem a3 b3)⟩
          generalize rd all (Int.tmod r1 (all.length : Int)) = x1 at HX1 Y8 ⊢
          generalize rd all r2 = x2 at HX2 Y9 ⊢
          generalize rd all r3 = x3 at HX3 Ya ⊢
          have h30 : 0 ≤ at3 := by have := HA3.out; have := HV.out.at0; omega
          have h31 : at3 ≤ (l.length : Int) := by have := HA3.out; omega
          obtain ⟨r4, e4, a4, b4⟩ := next_ev HBL.out (by omega) (at_ := at3) (n := 7) h30 h31 (by omega)
          obtain ⟨at4, hat4⟩ : ∃ x : Int, x = min (at3 + 1) (l.length : Int) := ⟨_, rfl⟩
          rw [← hat4] at e4
          have HA4 : Aside0 (at4 = min (at_ + 5) (l.length : Int)) := ⟨by rw [hat4, HA3.out]; clear hat4 e4; omega⟩
          have HE4 := Aside0.mk e4
          obtain ⟨r5, e5, a5, b5⟩ := next_ev HBL.out (by omega) (at_ := at4) (n := 6) (by omega) (by omega) (by omega)
          obtain ⟨at5, hat5⟩ : ∃ x : Int, x = min (at4 + 1) (l.length : Int) := ⟨_, rfl⟩
          rw [← hat5] at e5
          have HA5 : Aside0 (at5 = min (at_ + 6) (l.length : Int)) := ⟨by rw [hat5, HA4.out]; clear hat5 e5 e4; omega⟩
          have HE5 := Aside0.mk e5
          clear hat4 hat5 e4 e5 h30 h31 p1 p2 a1 a2 b2 a3 b3 HE1 HE2 HE3 HA3 L8 L9 La R8 R9 Ra E8 E9 Ea N89 N8a N9a hHeld
          go_upto_region 13 with (go_at_call 38; refine (flagstonedraw_Codes_Next.calls C l at3 7 r4 at4 w0 w7 C3.out LB.out HE4.out).mono ?_; rintro e w8 ⟨rfl, hi, hb, hk⟩; have HM8 := Aside0.mk (M.out.codes C3.out hk (below_between LB.out hb hk.1)); have HY8 := Aside0.mk (show w8.heap[b8]? = some (boxP x1) from box_codes C3.out hk Y8.out); have HY9 := Aside0.mk (show w8.heap[b9]? = some (boxP x2) from box_codes C3.out hk Y9.out); have HYa := Aside0.mk (show w8.heap[ba]? = some (boxP x3) from box_codes C3.out hk Ya.out); have HC8 := Aside0.mk hi; have HL8 := Aside0.mk hb; clear hi hb hk)
          clear M LB C3 Y8 Y9 Ya HE4
          have HSX : Aside0 (Six ns ns.length) := ⟨⟨HV.out.six.wf, HV.out.six.t6, Nat.le_refl _⟩⟩
          have HN : Aside0 (ns.length ≤ 1600) := ⟨HV.out.six.len⟩
          have HAL : Aside0 (all.length ≤ 1000) := ⟨by have := HV.out.at1; omega⟩
          clear hal
          have hcase : r4 = 0 ∨ r4 = 1 ∨ r4 = 2 ∨ r4 = 3 ∨ r4 = 4 ∨ r4 = 5 ∨ r4 = 6 := by omega
          clear a4 b4
          rcases hcase with rfl | rfl | rfl | rfl | rfl | rfl | rfl
          · as_aux_lemma =>
              obtain ⟨ms, r, h1, h2, h3⟩ := node_any HSX.out (by have := HN.out; omega) (t := r5) (by omega) x1 x2
              have HBO := Aside0.mk (both_node h1)
              have HS6 := Aside0.mk h2
              have HMY := Aside0.mk h3
              clear h1 h2 h3
              go_upto_region 16 with (go_at_call 38; refine (flagstonedraw_Codes_Next.calls C l at4 6 r5 at5 w0 w8 HC8.out HL8.out HE5.out).mono ?_; rintro e w9 ⟨rfl, hi, hb, hk⟩; have HM9 := Aside0.mk (HM8.out.codes HC8.out hk (below_between HL8.out hb hk.1)); have HZ8 := Aside0.mk (show w9.heap[b8]? = some (boxP x1) from box_codes HC8.out hk HY8.out); have HZ9 := Aside0.mk (show w9.heap[b9]? = some (boxP x2) from box_codes HC8.out hk HY9.out); have HZa := Aside0.mk (show w9.heap[ba]? = some (boxP x3) from box_codes HC8.out hk HYa.out); have HC9 := Aside0.mk hi; have HL9 := Aside0.mk hb; clear hi hb hk)
              have HM0 := Aside0.mk HM9.out.drew
              have HC0 : Aside0 (IsS71 w0 w9.drew C l at5) := ⟨HC9.out.drew⟩
              have HL0 : Aside0 (Below w0.heap.size w0 w9.drew) := ⟨HL9.out.drew⟩
              have HW8 : Aside0 (w9.drew.heap[b8]? = some (boxP x1)) := ⟨HZ8.out⟩
              have HW9 : Aside0 (w9.drew.heap[b9]? = some (boxP x2)) := ⟨HZ9.out⟩
              have HWa : Aside0 (w9.drew.heap[ba]? = some (boxP x3)) := ⟨HZa.out⟩
              refine start_ (n := 22) (S := fun w' => w'.cell? ⟨G, 0, none⟩ = some (.pointer (some ⟨S, 0, none⟩)) ∧ w'.cell? ⟨G, 1, none⟩ = some (.pointer (some ⟨S', 0, none⟩)) ∧ w'.cell? ⟨b8, 0, none⟩ = some (.int .i64 x1) ∧ w'.cell? ⟨b8, 1, none⟩ = some (.int .i64 x1) ∧ w'.cell? ⟨b9, 0, none⟩ = some (.int .i64 x2) ∧ w'.cell? ⟨b9, 1, none⟩ = some (.int .i64 x2)) (ds := [21]) #[false, false, false, false, false, false, false, false, false, false, false, false, false, false, false, false, false, false, false, false, false, false] (by kernel_rfl) rfl rfl ⟨HM0.out.c0, HM0.out.c1, (blk_cell HW8.out 0).trans rfl, (blk_cell HW8.out 1).trans rfl, (blk_cell HW9.out 0).trans rfl, (blk_cell HW9.out 1).trans rfl⟩ (fun hHeld => ?_)
              refine with_tabW made.tab16 made.bits16 (fun HT_ HW_ => ?_)
              refine pure_ (i := 0) (N := some 102) (v := ?_) (a' := ?_) #[true, false, false, false, false, false, false, false, false, false, false, false, false, false, false, false, false, false, false, false, false, false] rfl rfl (any_of HT_.out (by kernel_rfl)) (fun _ _ _ h => h) (Or.inl ⟨by rfl, ?_⟩) ?_ ?_
              rotate_left
              · intro w'
                go_simp
                with_reducible rfl
              rotate_left
              · simp only [Act.put, List.setIfInBounds_toArray, List.set_cons_zero, List.set_cons_succ, i64_w, i32_w]
                rfl
              refine pure_ (i := 1) (N := some 103) (v := ?_) (a' := ?_) #[true, true, false, false, false, false, false, false, false, false, false, false, false, false, false, false, false, false, false, false, false, false] rfl rfl (any_of HT_.out (by kernel_rfl)) (fun _ _ _ h => h) (Or.inl ⟨by rfl, ?_⟩) ?_ ?_
              rotate_left
              · intro w'
                go_simp
                with_reducible rfl
              rotate_left
              · simp only [Act.put, List.setIfInBounds_toArray, List.set_cons_zero, List.set_cons_succ, i64_w, i32_w]
                rfl
              refine pure_ (i := 2) (N := some 104) (v := ?_) (a' := ?_) #[true, true, true, false, false, false, false, false, false, false, false, false, false, false, false, false, false, false, false, false, false, false] rfl rfl (any_of HT_.out (by kernel_rfl)) (fun _ _ _ h => h) (Or.inl ⟨by rfl, ?_⟩) ?_ ?_
              rotate_left
              · intro w'
                go_simp
                with_reducible rfl
              rotate_left
              · simp only [Act.put, List.setIfInBounds_toArray, List.set_cons_zero, List.set_cons_succ, i64_w, i32_w]
                rfl
              refine pure_ (i := 3) (N := some 105) (v := ?_) (a' := ?_) #[true, true, true, true, false, false, false, false, false, false, false, false, false, false, false, false, false, false, false, false, false, false] rfl rfl (any_of HT_.out (by kernel_rfl)) (fun _ _ _ h => h) (Or.inl ⟨by rfl, ?_⟩) ?_ ?_
              rotate_left
              · intro w'
                go_simp
                with_reducible rfl
              rotate_left
              · simp only [Act.put, List.setIfInBounds_toArray, List.set_cons_zero, List.set_cons_succ, i64_w, i32_w]
                rfl
              refine take_ (i := 4) (N := some 106) (v := ?_) (a' := ?_) #[true, true, true, true, true, false, false, false, false, false, false, false, false, false, false, false, false, false, false, false, false, false] rfl rfl (take_ofW HT_.out HW_.out (by kernel_rfl)) (fun _ _ _ h => h) (Or.inl ⟨by rfl, ?_⟩) hHeld ?_ ?_
              rotate_left
              · rintro w' ⟨s0, s1, s2, s3, s4, s5⟩
                go_simp
                with_reducible rfl
              rotate_left
              · simp only [Act.put, List.setIfInBounds_toArray, List.set_cons_zero, List.set_cons_succ, i64_w, i32_w]
                rfl
              refine pure_ (i := 5) (N := some 107) (v := ?_) (a' := ?_) #[true, true, true, true, true, true, false, false, false, false, false, false, false, false, false, false, false, false, false, false, false, false] rfl rfl (any_of HT_.out (by kernel_rfl)) (fun _ _ _ h => h) (Or.inl ⟨by rfl, ?_⟩) ?_ ?_
              rotate_left
              · intro w'
                go_simp
                with_reducible rfl
              rotate_left
              · simp only [Act.put, List.setIfInBounds_toArray, List.set_cons_zero, List.set_cons_succ, i64_w, i32_w]
                rfl
              refine pure_ (i := 6) (N := some 108) (v := ?_) (a' := ?_) #[true, true, true, true, true, true, true, false, false, false, false, false, false, false, false, false, false, false, false, false, false, false] rfl rfl (any_of HT_.out (by kernel_rfl)) (fun _ _ _ h => h) (Or.inl ⟨by rfl, ?_⟩) ?_ ?_
              rotate_left
              · intro w'
                go_simp
                with_reducible rfl
              rotate_left
              · simp only [Act.put, List.setIfInBounds_toArray, List.set_cons_zero, List.set_cons_succ, i64_w, i32_w]
                rfl
              refine take_ (i := 7) (N := some 109) (v := ?_) (a' := ?_) #[true, true, true, true, true, true, true, true, false, false, false, false, false, false, false, false, false, false, false, false, false, false] rfl rfl (take_ofW HT_.out HW_.out (by kernel_rfl)) (fun _ _ _ h => h) (Or.inl ⟨by rfl, ?_⟩) hHeld ?_ ?_
              rotate_left
              · rintro w' ⟨s0, s1, s2, s3, s4, s5⟩
                go_simp
                with_reducible rfl
              rotate_left
              · simp only [Act.put, List.setIfInBounds_toArray, List.set_cons_zero, List.set_cons_succ, i64_w, i32_w]
                rfl
              refine pure_ (i := 8) (N := some 110) (v := ?_) (a' := ?_) #[true, true, true, true, true, true, true, true, true, false, false, false, false, false, false, false, false, false, false, false, false, false] rfl rfl (any_of HT_.out (by kernel_rfl)) (fun _ _ _ h => h) (Or.inl ⟨by rfl, ?_⟩) ?_ ?_
              rotate_left
              · intro w'
                go_simp
                with_reducible rfl
              rotate_left
              · simp only [Act.put, List.setIfInBounds_toArray, List.set_cons_zero, List.set_cons_succ, i64_w, i32_w]
                rfl
              refine take_ (i := 9) (N := some 111) (v := ?_) (a' := ?_) #[true, true, true, true, true, true, true, true, true, true, false, false, false, false, false, false, false, false, false, false, false, false] rfl rfl (take_ofW HT_.out HW_.out (by kernel_rfl)) (fun _ _ _ h => h) (Or.inl ⟨by rfl, ?_⟩) hHeld ?_ ?_
              rotate_left
              · rintro w' ⟨s0, s1, s2, s3, s4, s5⟩
                go_simp
                with_reducible rfl
              rotate_left
              · simp only [Act.put, List.setIfInBounds_toArray, List.set_cons_zero, List.set_cons_succ, i64_w, i32_w]
                rfl
              refine pure_ (i := 11) (N := some 113) (v := ?_) (a' := ?_) #[true, true, true, true, true, true, true, true, true, true, false, true, false, false, false, false, false, false, false, false, false, false] rfl rfl (any_of HT_.out (by kernel_rfl)) (fun _ _ _ h => h) (Or.inl ⟨by rfl, ?_⟩) ?_ ?_
              rotate_left
              · intro w'
                go_simp
                with_reducible rfl
              rotate_left
              · simp only [Act.put, List.setIfInBounds_toArray, List.set_cons_zero, List.set_cons_succ, i64_w, i32_w]
                rfl
              refine pure_ (i := 12) (N := some 114) (v := ?_) (a' := ?_) #[true, true, true, true, true, true, true, true, true, true, false, true, true, false, false, false, false, false, false, false, false, false] rfl rfl (any_of HT_.out (by kernel_rfl)) (fun _ _ _ h => h) (Or.inl ⟨by rfl, ?_⟩) ?_ ?_
              rotate_left
              · intro w'
                go_simp
                with_reducible rfl
              rotate_left
              · simp only [Act.put, List.setIfInBounds_toArray, List.set_cons_zero, List.set_cons_succ, i64_w, i32_w]
                rfl
              refine pure_ (i := 13) (N := some 115) (v := ?_) (a' := ?_) #[true, true, true, true, true, true, true, true, true, true, false, true, true, true, false, false, false, false, false, false, false, false] rfl rfl (any_of HT_.out (by kernel_rfl)) (fun _ _ _ h => h) (Or.inl ⟨by rfl, ?_⟩) ?_ ?_
              rotate_left
              · intro w'
                go_simp
                with_reducible rfl
              rotate_left
              · simp only [Act.put, List.setIfInBounds_toArray, List.set_cons_zero, List.set_cons_succ, i64_w, i32_w]
                rfl
              refine take_ (i := 14) (N := some 116) (v := ?_) (a' := ?_) #[true, true, true, true, true, true, true, true, true, true, false, true, true, true, true, false, false, false, false, false, false, false] rfl rfl (take_ofW HT_.out HW_.out (by kernel_rfl)) (fun _ _ _ h => h) (Or.inl ⟨by rfl, ?_⟩) hHeld ?_ ?_
              rotate_left
              · rintro w' ⟨s0, s1, s2, s3, s4, s5⟩
                go_simp
                with_reducible rfl
              rotate_left
              · simp only [Act.put, List.setIfInBounds_toArray, List.set_cons_zero, List.set_cons_succ, i64_w, i32_w]
                rfl
              refine pure_ (i := 15) (N := some 117) (v := ?_) (a' := ?_) #[true, true, true, true, true, true, true, true, true, true, false, true, true, true, true, true, false, false, false, false, false, false] rfl rfl (any_of HT_.out (by kernel_rfl)) (fun _ _ _ h => h) (Or.inl ⟨by rfl, ?_⟩) ?_ ?_
              rotate_left
              · intro w'
                go_simp
                with_reducible rfl
              rotate_left
              · simp only [Act.put, List.setIfInBounds_toArray, List.set_cons_zero, List.set_cons_succ, i64_w, i32_w]
                rfl
              refine pure_ (i := 16) (N := some 118) (v := ?_) (a' := ?_) #[true, true, true, true, true, true, true, true, true, true, false, true, true, true, true, true, true, false, false, false, false, false] rfl rfl (any_of HT_.out (by kernel_rfl)) (fun _ _ _ h => h) (Or.inl ⟨by rfl, ?_⟩) ?_ ?_
              rotate_left
              · intro w'
                go_simp
                with_reducible rfl
              rotate_left
              · simp only [Act.put, List.setIfInBounds_toArray, List.set_cons_zero, List.set_cons_succ, i64_w, i32_w]
                rfl
              refine take_ (i := 17) (N := some 119) (v := ?_) (a' := ?_) #[true, true, true, true, true, true, true, true, true, true, false, true, true, true, true, true, true, true, false, false, false, false] rfl rfl (take_ofW HT_.out HW_.out (by kernel_rfl)) (fun _ _ _ h => h) (Or.inl ⟨by rfl, ?_⟩) hHeld ?_ ?_
              rotate_left
              · rintro w' ⟨s0, s1, s2, s3, s4, s5⟩
                go_simp
                with_reducible rfl
              rotate_left
              · simp only [Act.put, List.setIfInBounds_toArray, List.set_cons_zero, List.set_cons_succ, i64_w, i32_w]
                rfl
              refine pure_ (i := 18) (N := some 120) (v := ?_) (a' := ?_) #[true, true, true, true, true, true, true, true, true, true, false, true, true, true, true, true, true, true, true, false, false, false] rfl rfl (any_of HT_.out (by kernel_rfl)) (fun _ _ _ h => h) (Or.inl ⟨by rfl, ?_⟩) ?_ ?_
              rotate_left
              · intro w'
                go_simp
                with_reducible rfl
              rotate_left
              · simp only [Act.put, List.setIfInBounds_toArray, List.set_cons_zero, List.set_cons_succ, i64_w, i32_w]
                rfl
              refine take_ (i := 19) (N := some 121) (v := ?_) (a' := ?_) #[true, true, true, true, true, true, true, true, true, true, false, true, true, true, true, true, true, true, true, true, false, false] rfl rfl (take_ofW HT_.out HW_.out (by kernel_rfl)) (fun _ _ _ h => h) (Or.inl ⟨by rfl, ?_⟩) hHeld ?_ ?_
              rotate_left
              · rintro w' ⟨s0, s1, s2, s3, s4, s5⟩
                go_simp
                with_reducible rfl
              rotate_left
              · simp only [Act.put, List.setIfInBounds_toArray, List.set_cons_zero, List.set_cons_succ, i64_w, i32_w]
                rfl
              refine one_ (i := 10) (N := some 112) #[true, true, true, true, true, true, true, true, true, true, true, true, true, true, true, true, true, true, true, true, false, false] rfl rfl (one_of HT_.out (by kernel_rfl)) (by decide) (fun K hK => ?_)
              refine goes_ Try.func18 (by kernel_rfl) rfl #[.pointer (some ⟨S, 0, none⟩), .int .i64 r5, .int .i64 x1, .int .i64 x2] (by rfl) rfl rfl (by (try simp only [List.map_toArray, List.map_cons, List.map_nil]); first | done | rfl) ?_
              refine (HM0.out.two.callP (fun m v hS => HBO.out.1 S m v false _ hS)).mono ?_
              rintro e wc1 ⟨rfl, ht, hk⟩
              refine ⟨_, rfl, ?_⟩
              have HM1 := Aside0.mk (HM0.out.step hk ht)
              have HC1 := Aside0.mk (HC0.out.kq (hk.mono L71_3))
              have HL1 := Aside0.mk (HL0.out.trans hk.b)
              have HV18 : Aside0 (wc1.heap[b8]? = some (boxP x1)) := ⟨hk.box _ _ _ _ HW8.out (by unfold L3; decide)⟩
              have HV19 : Aside0 (wc1.heap[b9]? = some (boxP x2)) := ⟨hk.box _ _ _ _ HW9.out (by unfold L3; decide)⟩
              clear ht hk
              refine hK.out _ _ ⟨HM1.out.c0, HM1.out.c1, (blk_cell HV18.out 0).trans rfl, (blk_cell HV18.out 1).trans rfl, (blk_cell HV19.out 0).trans rfl, (blk_cell HV19.out 1).trans rfl⟩ (fun hHeld1 => ?_)
              clear hK K
              refine norm_ (a' := ?_) ?_ ?_
              rotate_left
              · show Act.put _ (some 112) _ = _
                simp only [Act.put, List.setIfInBounds_toArray, List.set_cons_zero, List.set_cons_succ, i64_w, i32_w]
                rfl
              refine one_ (i := 20) (N := some 122) #[true, true, true, true, true, true, true, true, true, true, true, true, true, true, true, true, true, true, true, true, true, false] rfl rfl (one_of HT_.out (by kernel_rfl)) (by decide) (fun K hK => ?_)
              refine goes_ Try.func27 (by kernel_rfl) rfl #[.pointer (some ⟨S', 0, none⟩), .int .i64 r5, .int .i64 x1, .int .i64 x2] (by rfl) rfl rfl (by (try simp only [List.map_toArray, List.map_cons, List.map_nil]); first | done | rfl) ?_
              refine (HM1.out.two.callR (fun m v hS => HBO.out.2 S' m v false _ hS)).mono ?_
              rintro e wc2 ⟨rfl, ht, hk⟩
              refine ⟨_, rfl, ?_⟩
              have HM2 := Aside0.mk (HM1.out.step hk ht)
              have HC2 := Aside0.mk (HC1.out.kq (hk.mono L71_3))
              have HL2 := Aside0.mk (HL1.out.trans hk.b)
              have HV28 : Aside0 (wc2.heap[b8]? = some (boxP x1)) := ⟨hk.box _ _ _ _ HV18.out (by unfold L3; decide)⟩
              have HV29 : Aside0 (wc2.heap[b9]? = some (boxP x2)) := ⟨hk.box _ _ _ _ HV19.out (by unfold L3; decide)⟩
              clear ht hk
              refine hK.out _ _ ⟨HM2.out.c0, HM2.out.c1, (blk_cell HV28.out 0).trans rfl, (blk_cell HV28.out 1).trans rfl, (blk_cell HV29.out 0).trans rfl, (blk_cell HV29.out 1).trans rfl⟩ (fun hHeld2 => ?_)
              clear hK K
              refine norm_ (a' := ?_) ?_ ?_
              rotate_left
              · show Act.put _ (some 122) _ = _
                simp only [Act.put, List.setIfInBounds_toArray, List.set_cons_zero, List.set_cons_succ, i64_w, i32_w]
                rfl
              refine last_ (i := 21) (N := some 123) #[true, true, true, true, true, true, true, true, true, true, true, true, true, true, true, true, true, true, true, true, true, true] rfl rfl (one_of HT_.out (by kernel_rfl)) (by decide) (fun K hK => ?_)
              refine goes_ Try.func35 (by kernel_rfl) rfl #[.pointer (some ⟨G, 0, none⟩), .int .i64 r, .int .i64 r] (by rfl) rfl rfl (by (try simp only [List.map_toArray, List.map_cons, List.map_nil]); first | done | rfl) ?_
              refine (add_calls w0.heap.size wc2 G S S' (some ad) c (ns ++ ms) all r HS6.out.wf HM2.out HAL.out).mono ?_
              rintro e w10 ⟨rfl, ⟨A1, c1, hm⟩, hk⟩
              refine ⟨_, rfl, ?_⟩
              have HNX := Aside0.mk (HV.out.next HLL.out HLT.out (.inr HA5.out) HS6.out HMY.out hm (HC2.out.kq hk) (HL2.out.trans hk.b))
              clear hm hk
              refine hK.out _ _ ?_
              clear hK K
              refine done_ (done_of HT_.out (by kernel_rfl)) ?_
              clear hHeld hHeld1 hHeld2
              have q2 := HNX.out.mka.c2
              have hal := HNX.out.alen
              have hat := HNX.out.at1
              generalize (if r = -1002 then all else all ++ [r]) = X at HNX q2 hal ⊢
              have d200 : decide (200 < (X.length : Int)) = false := by simp; omega
              clear hal hat
              go_wp2
              go_roundg gk1
              case measure => omega
              case rel => exact ⟨at5, ns ++ ms, X, A1, c1, HNX, ⟨by have h1 := HK.out; have h2 := HA5.out; have h3 := HLT.out; omega⟩⟩
          · as_aux_lemma =>
              obtain ⟨ms, r, h1, h2, h3⟩ := node_any HSX.out (by have := HN.out; omega) (t := r5) (by omega) x1 x2
              have HBO := Aside0.mk (both_node h1)
              have HS6 := Aside0.mk h2
              have HMY := Aside0.mk h3
              clear h1 h2 h3
              go_upto_region 16 with (go_at_call 38; refine (flagstonedraw_Codes_Next.calls C l at4 6 r5 at5 w0 w8 HC8.out HL8.out HE5.out).mono ?_; rintro e w9 ⟨rfl, hi, hb, hk⟩; have HM9 := Aside0.mk (HM8.out.codes HC8.out hk (below_between HL8.out hb hk.1)); have HZ8 := Aside0.mk (show w9.heap[b8]? = some (boxP x1) from box_codes HC8.out hk HY8.out); have HZ9 := Aside0.mk (show w9.heap[b9]? = some (boxP x2) from box_codes HC8.out hk HY9.out); have HZa := Aside0.mk (show w9.heap[ba]? = some (boxP x3) from box_codes HC8.out hk HYa.out); have HC9 := Aside0.mk hi; have HL9 := Aside0.mk hb; clear hi hb hk)
              have HM0 := Aside0.mk HM9.out.drew
              have HC0 : Aside0 (IsS71 w0 w9.drew C l at5) := ⟨HC9.out.drew⟩
              have HL0 : Aside0 (Below w0.heap.size w0 w9.drew) := ⟨HL9.out.drew⟩
              have HW8 : Aside0 (w9.drew.heap[b8]? = some (boxP x1)) := ⟨HZ8.out⟩
              have HW9 : Aside0 (w9.drew.heap[b9]? = some (boxP x2)) := ⟨HZ9.out⟩
              have HWa : Aside0 (w9.drew.heap[ba]? = some (boxP x3)) := ⟨HZa.out⟩
              refine start_ (n := 22) (S := fun w' => w'.cell? ⟨G, 0, none⟩ = some (.pointer (some ⟨S, 0, none⟩)) ∧ w'.cell? ⟨G, 1, none⟩ = some (.pointer (some ⟨S', 0, none⟩)) ∧ w'.cell? ⟨b8, 0, none⟩ = some (.int .i64 x1) ∧ w'.cell? ⟨b8, 1, none⟩ = some (.int .i64 x1) ∧ w'.cell? ⟨b9, 0, none⟩ = some (.int .i64 x2) ∧ w'.cell? ⟨b9, 1, none⟩ = some (.int .i64 x2)) (ds := [21]) #[false, false, false, false, false, false, false, false, false, false, false, false, false, false, false, false, false, false, false, false, false, false] (by kernel_rfl) rfl rfl ⟨HM0.out.c0, HM0.out.c1, (blk_cell HW8.out 0).trans rfl, (blk_cell HW8.out 1).trans rfl, (blk_cell HW9.out 0).trans rfl, (blk_cell HW9.out 1).trans rfl⟩ (fun hHeld => ?_)
              refine with_tabW made.tab16 made.bits16 (fun HT_ HW_ => ?_)
              refine pure_ (i := 0) (N := some 102) (v := ?_) (a' := ?_) #[true, false, false, false, false, false, false, false, false, false, false, false, false, false, false, false, false, false, false, false, false, false] rfl rfl (any_of HT_.out (by kernel_rfl)) (fun _ _ _ h => h) (Or.inl ⟨by rfl, ?_⟩) ?_ ?_
              rotate_left
              · intro w'
                go_simp
                with_reducible rfl
              rotate_left
              · simp only [Act.put, List.setIfInBounds_toArray, List.set_cons_zero, List.set_cons_succ, i64_w, i32_w]
                rfl
              refine pure_ (i := 1) (N := some 103) (v := ?_) (a' := ?_) #[true, true, false, false, false, false, false, false, false, false, false, false, false, false, false, false, false, false, false, false, false, false] rfl rfl (any_of HT_.out (by kernel_rfl)) (fun _ _ _ h => h) (Or.inl ⟨by rfl, ?_⟩) ?_ ?_
              rotate_left
              · intro w'
                go_simp
                with_reducible rfl
              rotate_left
              · simp only [Act.put, List.setIfInBounds_toArray, List.set_cons_zero, List.set_cons_succ, i64_w, i32_w]
                rfl
              refine pure_ (i := 2) (N := some 104) (v := ?_) (a' := ?_) #[true, true, true, false, false, false, false, false, false, false, false, false, false, false, false, false, false, false, false, false, false, false] rfl rfl (any_of HT_.out (by kernel_rfl)) (fun _ _ _ h => h) (Or.inl ⟨by rfl, ?_⟩) ?_ ?_
              rotate_left
              · intro w'
                go_simp
                with_reducible rfl
              rotate_left
              · simp only [Act.put, List.setIfInBounds_toArray, List.set_cons_zero, List.set_cons_succ, i64_w, i32_w]
                rfl
              refine pure_ (i := 3) (N := some 105) (v := ?_) (a' := ?_) #[true, true, true, true, false, false, false, false, false, false, false, false, false, false, false, false, false, false, false, false, false, false] rfl rfl (any_of HT_.out (by kernel_rfl)) (fun _ _ _ h => h) (Or.inl ⟨by rfl, ?_⟩) ?_ ?_
              rotate_left
              · intro w'
                go_simp
                with_reducible rfl
              rotate_left
              · simp only [Act.put, List.setIfInBounds_toArray, List.set_cons_zero, List.set_cons_succ, i64_w, i32_w]
                rfl
              refine take_ (i := 4) (N := some 106) (v := ?_) (a' := ?_) #[true, true, true, true, true, false, false, false, false, false, false, false, false, false, false, false, false, false, false, false, false, false] rfl rfl (take_ofW HT_.out HW_.out (by kernel_rfl)) (fun _ _ _ h => h) (Or.inl ⟨by rfl, ?_⟩) hHeld ?_ ?_
              rotate_left
              · rintro w' ⟨s0, s1, s2, s3, s4, s5⟩
                go_simp
                with_reducible rfl
              rotate_left
              · simp only [Act.put, List.setIfInBounds_toArray, List.set_cons_zero, List.set_cons_succ, i64_w, i32_w]
                rfl
              refine pure_ (i := 5) (N := some 107) (v := ?_) (a' := ?_) #[true, true, true, true, true, true, false, false, false, false, false, false, false, false, false, false, false, false, false, false, false, false] rfl rfl (any_of HT_.out (by kernel_rfl)) (fun _ _ _ h => h) (Or.inl ⟨by rfl, ?_⟩) ?_ ?_
              rotate_left
              · intro w'
                go_simp
                with_reducible rfl
              rotate_left
              · simp only [Act.put, List.setIfInBounds_toArray, List.set_cons_zero, List.set_cons_succ, i64_w, i32_w]
                rfl
              refine pure_ (i := 6) (N := some 108) (v := ?_) (a' := ?_) #[true, true, true, true, true, true, true, false, false, false, false, false, false, false, false, false, false, false, false, false, false, false] rfl rfl (any_of HT_.out (by kernel_rfl)) (fun _ _ _ h => h) (Or.inl ⟨by rfl, ?_⟩) ?_ ?_
              rotate_left
              · intro w'
                go_simp
                with_reducible rfl
              rotate_left
              · simp only [Act.put, List.setIfInBounds_toArray, List.set_cons_zero, List.set_cons_succ, i64_w, i32_w]
                rfl
              refine take_ (i := 7) (N := some 109) (v := ?_) (a' := ?_) #[true, true, true, true, true, true, true, true, false, false, false, false, false, false, false, false, false, false, false, false, false, false] rfl rfl (take_ofW HT_.out HW_.out (by kernel_rfl)) (fun _ _ _ h => h) (Or.inl ⟨by rfl, ?_⟩) hHeld ?_ ?_
              rotate_left
              · rintro w' ⟨s0, s1, s2, s3, s4, s5⟩
                go_simp
                with_reducible rfl
              rotate_left
              · simp only [Act.put, List.setIfInBounds_toArray, List.set_cons_zero, List.set_cons_succ, i64_w, i32_w]
                rfl
              refine pure_ (i := 8) (N := some 110) (v := ?_) (a' := ?_) #[true, true, true, true, true, true, true, true, true, false, false, false, false, false, false, false, false, false, false, false, false, false] rfl rfl (any_of HT_.out (by kernel_rfl)) (fun _ _ _ h => h) (Or.inl ⟨by rfl, ?_⟩) ?_ ?_
              rotate_left
              · intro w'
                go_simp
                with_reducible rfl
              rotate_left
              · simp only [Act.put, List.setIfInBounds_toArray, List.set_cons_zero, List.set_cons_succ, i64_w, i32_w]
                rfl
              refine take_ (i := 9) (N := some 111) (v := ?_) (a' := ?_) #[true, true, true, true, true, true, true, true, true, true, false, false, false, false, false, false, false, false, false, false, false, false] rfl rfl (take_ofW HT_.out HW_.out (by kernel_rfl)) (fun _ _ _ h => h) (Or.inl ⟨by rfl, ?_⟩) hHeld ?_ ?_
              rotate_left
              · rintro w' ⟨s0, s1, s2, s3, s4, s5⟩
                go_simp
                with_reducible rfl
              rotate_left
              · simp only [Act.put, List.setIfInBounds_toArray, List.set_cons_zero, List.set_cons_succ, i64_w, i32_w]
                rfl
              refine pure_ (i := 11) (N := some 113) (v := ?_) (a' := ?_) #[true, true, true, true, true, true, true, true, true, true, false, true, false, false, false, false, false, false, false, false, false, false] rfl rfl (any_of HT_.out (by kernel_rfl)) (fun _ _ _ h => h) (Or.inl ⟨by rfl, ?_⟩) ?_ ?_
              rotate_left
              · intro w'
                go_simp
                with_reducible rfl
              rotate_left
              · simp only [Act.put, List.setIfInBounds_toArray, List.set_cons_zero, List.set_cons_succ, i64_w, i32_w]
                rfl
              refine pure_ (i := 12) (N := some 114) (v := ?_) (a' := ?_) #[true, true, true, true, true, true, true, true, true, true, false, true, true, false, false, false, false, false, false, false, false, false] rfl rfl (any_of HT_.out (by kernel_rfl)) (fun _ _ _ h => h) (Or.inl ⟨by rfl, ?_⟩) ?_ ?_
              rotate_left
              · intro w'
                go_simp
                with_reducible rfl
              rotate_left
              · simp only [Act.put, List.setIfInBounds_toArray, List.set_cons_zero, List.set_cons_succ, i64_w, i32_w]
                rfl
              refine pure_ (i := 13) (N := some 115) (v := ?_) (a' := ?_) #[true, true, true, true, true, true, true, true, true, true, false, true, true, true, false, false, false, false, false, false, false, false] rfl rfl (any_of HT_.out (by kernel_rfl)) (fun _ _ _ h => h) (Or.inl ⟨by rfl, ?_⟩) ?_ ?_
              rotate_left
              · intro w'
                go_simp
                with_reducible rfl
              rotate_left
              · simp only [Act.put, List.setIfInBounds_toArray, List.set_cons_zero, List.set_cons_succ, i64_w, i32_w]
                rfl
              refine take_ (i := 14) (N := some 116) (v := ?_) (a' := ?_) #[true, true, true, true, true, true, true, true, true, true, false, true, true, true, true, false, false, false, false, false, false, false] rfl rfl (take_ofW HT_.out HW_.out (by kernel_rfl)) (fun _ _ _ h => h) (Or.inl ⟨by rfl, ?_⟩) hHeld ?_ ?_
              rotate_left
              · rintro w' ⟨s0, s1, s2, s3, s4, s5⟩
                go_simp
                with_reducible rfl
              rotate_left
              · simp only [Act.put, List.setIfInBounds_toArray, List.set_cons_zero, List.set_cons_succ, i64_w, i32_w]
                rfl
              refine pure_ (i := 15) (N := some 117) (v := ?_) (a' := ?_) #[true, true, true, true, true, true, true, true, true, true, false, true, true, true, true, true, false, false, false, false, false, false] rfl rfl (any_of HT_.out (by kernel_rfl)) (fun _ _ _ h => h) (Or.inl ⟨by rfl, ?_⟩) ?_ ?_
              rotate_left
              · intro w'
                go_simp
                with_reducible rfl
              rotate_left
              · simp only [Act.put, List.setIfInBounds_toArray, List.set_cons_zero, List.set_cons_succ, i64_w, i32_w]
                rfl
              refine pure_ (i := 16) (N := some 118) (v := ?_) (a' := ?_) #[true, true, true, true, true, true, true, true, true, true, false, true, true, true, true, true, true, false, false, false, false, false] rfl rfl (any_of HT_.out (by kernel_rfl)) (fun _ _ _ h => h) (Or.inl ⟨by rfl, ?_⟩) ?_ ?_
              rotate_left
              · intro w'
                go_simp
                with_reducible rfl
              rotate_left
              · simp only [Act.put, List.setIfInBounds_toArray, List.set_cons_zero, List.set_cons_succ, i64_w, i32_w]
                rfl
              refine take_ (i := 17) (N := some 119) (v := ?_) (a' := ?_) #[true, true, true, true, true, true, true, true, true, true, false, true, true, true, true, true, true, true, false, false, false, false] rfl rfl (take_ofW HT_.out HW_.out (by kernel_rfl)) (fun _ _ _ h => h) (Or.inl ⟨by rfl, ?_⟩) hHeld ?_ ?_
              rotate_left
              · rintro w' ⟨s0, s1, s2, s3, s4, s5⟩
                go_simp
                with_reducible rfl
              rotate_left
              · simp only [Act.put, List.setIfInBounds_toArray, List.set_cons_zero, List.set_cons_succ, i64_w, i32_w]
                rfl
              refine pure_ (i := 18) (N := some 120) (v := ?_) (a' := ?_) #[true, true, true, true, true, true, true, true, true, true, false, true, true, true, true, true, true, true, true, false, false, false] rfl rfl (any_of HT_.out (by kernel_rfl)) (fun _ _ _ h => h) (Or.inl ⟨by rfl, ?_⟩) ?_ ?_
              rotate_left
              · intro w'
                go_simp
                with_reducible rfl
              rotate_left
              · simp only [Act.put, List.setIfInBounds_toArray, List.set_cons_zero, List.set_cons_succ, i64_w, i32_w]
                rfl
              refine take_ (i := 19) (N := some 121) (v := ?_) (a' := ?_) #[true, true, true, true, true, true, true, true, true, true, false, true, true, true, true, true, true, true, true, true, false, false] rfl rfl (take_ofW HT_.out HW_.out (by kernel_rfl)) (fun _ _ _ h => h) (Or.inl ⟨by rfl, ?_⟩) hHeld ?_ ?_
              rotate_left
              · rintro w' ⟨s0, s1, s2, s3, s4, s5⟩
                go_simp
                with_reducible rfl
              rotate_left
              · simp only [Act.put, List.setIfInBounds_toArray, List.set_cons_zero, List.set_cons_succ, i64_w, i32_w]
                rfl
              refine one_ (i := 10) (N := some 112) #[true, true, true, true, true, true, true, true, true, true, true, true, true, true, true, true, true, true, true, true, false, false] rfl rfl (one_of HT_.out (by kernel_rfl)) (by decide) (fun K hK => ?_)
              refine goes_ Try.func18 (by kernel_rfl) rfl #[.pointer (some ⟨S, 0, none⟩), .int .i64 r5, .int .i64 x1, .int .i64 x2] (by rfl) rfl rfl (by (try simp only [List.map_toArray, List.map_cons, List.map_nil]); first | done | rfl) ?_
              refine (HM0.out.two.callP (fun m v hS => HBO.out.1 S m v false _ hS)).mono ?_
              rintro e wc1 ⟨rfl, ht, hk⟩
              refine ⟨_, rfl, ?_⟩
              have HM1 := Aside0.mk (HM0.out.step hk ht)
              have HC1 := Aside0.mk (HC0.out.kq (hk.mono L71_3))
              have HL1 := Aside0.mk (HL0.out.trans hk.b)
              have HV18 : Aside0 (wc1.heap[b8]? = some (boxP x1)) := ⟨hk.box _ _ _ _ HW8.out (by unfold L3; decide)⟩
              have HV19 : Aside0 (wc1.heap[b9]? = some (boxP x2)) := ⟨hk.box _ _ _ _ HW9.out (by unfold L3; decide)⟩
              clear ht hk
              refine hK.out _ _ ⟨HM1.out.c0, HM1.out.c1, (blk_cell HV18.out 0).trans rfl, (blk_cell HV18.out 1).trans rfl, (blk_cell HV19.out 0).trans rfl, (blk_cell HV19.out 1).trans rfl⟩ (fun hHeld1 => ?_)
              clear hK K
              refine norm_ (a' := ?_) ?_ ?_
              rotate_left
              · show Act.put _ (some 112) _ = _
                simp only [Act.put, List.setIfInBounds_toArray, List.set_cons_zero, List.set_cons_succ, i64_w, i32_w]
                rfl
              refine one_ (i := 20) (N := some 122) #[true, true, true, true, true, true, true, true, true, true, true, true, true, true, true, true, true, true, true, true, true, false] rfl rfl (one_of HT_.out (by kernel_rfl)) (by decide) (fun K hK => ?_)
              refine goes_ Try.func27 (by kernel_rfl) rfl #[.pointer (some ⟨S', 0, none⟩), .int .i64 r5, .int .i64 x1, .int .i64 x2] (by rfl) rfl rfl (by (try simp only [List.map_toArray, List.map_cons, List.map_nil]); first | done | rfl) ?_
              refine (HM1.out.two.callR (fun m v hS => HBO.out.2 S' m v false _ hS)).mono ?_
              rintro e wc2 ⟨rfl, ht, hk⟩
              refine ⟨_, rfl, ?_⟩
              have HM2 := Aside0.mk (HM1.out.step hk ht)
              have HC2 := Aside0.mk (HC1.out.kq (hk.mono L71_3))
              have HL2 := Aside0.mk (HL1.out.trans hk.b)
              have HV28 : Aside0 (wc2.heap[b8]? = some (boxP x1)) := ⟨hk.box _ _ _ _ HV18.out (by unfold L3; decide)⟩
              have HV29 : Aside0 (wc2.heap[b9]? = some (boxP x2)) := ⟨hk.box _ _ _ _ HV19.out (by unfold L3; decide)⟩
              clear ht hk
              refine hK.out _ _ ⟨HM2.out.c0, HM2.out.c1, (blk_cell HV28.out 0).trans rfl, (blk_cell HV28.out 1).trans rfl, (blk_cell HV29.out 0).trans rfl, (blk_cell HV29.out 1).trans rfl⟩ (fun hHeld2 => ?_)
              clear hK K
              refine norm_ (a' := ?_) ?_ ?_
              rotate_left
              · show Act.put _ (some 122) _ = _
                simp only [Act.put, List.setIfInBounds_toArray, List.set_cons_zero, List.set_cons_succ, i64_w, i32_w]
                rfl
              refine last_ (i := 21) (N := some 123) #[true, true, true, true, true, true, true, true, true, true, true, true, true, true, true, true, true, true, true, true, true, true] rfl rfl (one_of HT_.out (by kernel_rfl)) (by decide) (fun K hK => ?_)
              refine goes_ Try.func35 (by kernel_rfl) rfl #[.pointer (some ⟨G, 0, none⟩), .int .i64 r, .int .i64 r] (by rfl) rfl rfl (by (try simp only [List.map_toArray, List.map_cons, List.map_nil]); first | done | rfl) ?_
              refine (add_calls w0.heap.size wc2 G S S' (some ad) c (ns ++ ms) all r HS6.out.wf HM2.out HAL.out).mono ?_
              rintro e w10 ⟨rfl, ⟨A1, c1, hm⟩, hk⟩
              refine ⟨_, rfl, ?_⟩
              have HNX := Aside0.mk (HV.out.next HLL.out HLT.out (.inr HA5.out) HS6.out HMY.out hm (HC2.out.kq hk) (HL2.out.trans hk.b))
              clear hm hk
              refine hK.out _ _ ?_
              clear hK K
              refine done_ (done_of HT_.out (by kernel_rfl)) ?_
              clear hHeld hHeld1 hHeld2
              have q2 := HNX.out.mka.c2
              have hal := HNX.out.alen
              have hat := HNX.out.at1
              generalize (if r = -1002 then all else all ++ [r]) = X at HNX q2 hal ⊢
              have d200 : decide (200 < (X.length : Int)) = false := by simp; omega
              clear hal hat
              go_wp2
              go_roundg gk1
              case measure => omega
              case rel => exact ⟨at5, ns ++ ms, X, A1, c1, HNX, ⟨by have h1 := HK.out; have h2 := HA5.out; have h3 := HLT.out; omega⟩⟩
          · as_aux_lemma =>
              obtain ⟨ms, r, h1, h2, h3⟩ := node_any HSX.out (by have := HN.out; omega) (t := r5) (by omega) (-2) (-1)
              have HBO := Aside0.mk (both_node h1)
              have HS6 := Aside0.mk h2
              have HMY := Aside0.mk h3
              clear h1 h2 h3
              go_upto_region 19 with (go_at_call 38; refine (flagstonedraw_Codes_Next.calls C l at4 6 r5 at5 w0 w8 HC8.out HL8.out HE5.out).mono ?_; rintro e w9 ⟨rfl, hi, hb, hk⟩; have HM9 := Aside0.mk (HM8.out.codes HC8.out hk (below_between HL8.out hb hk.1)); have HZ8 := Aside0.mk (show w9.heap[b8]? = some (boxP x1) from box_codes HC8.out hk HY8.out); have HZ9 := Aside0.mk (show w9.heap[b9]? = some (boxP x2) from box_codes HC8.out hk HY9.out); have HZa := Aside0.mk (show w9.heap[ba]? = some (boxP x3) from box_codes HC8.out hk HYa.out); have HC9 := Aside0.mk hi; have HL9 := Aside0.mk hb; clear hi hb hk)
              have HM0 := Aside0.mk HM9.out.drew
              have HC0 : Aside0 (IsS71 w0 w9.drew C l at5) := ⟨HC9.out.drew⟩
              have HL0 : Aside0 (Below w0.heap.size w0 w9.drew) := ⟨HL9.out.drew⟩
              have HW8 : Aside0 (w9.drew.heap[b8]? = some (boxP x1)) := ⟨HZ8.out⟩
              have HW9 : Aside0 (w9.drew.heap[b9]? = some (boxP x2)) := ⟨HZ9.out⟩
              have HWa : Aside0 (w9.drew.heap[ba]? = some (boxP x3)) := ⟨HZa.out⟩
              refine start_ (n := 14) (S := fun w' => w'.cell? ⟨G, 0, none⟩ = some (.pointer (some ⟨S, 0, none⟩)) ∧ w'.cell? ⟨G, 1, none⟩ = some (.pointer (some ⟨S', 0, none⟩))) (ds := [13]) #[false, false, false, false, false, false, false, false, false, false, false, false, false, false] (by kernel_rfl) rfl rfl ⟨HM0.out.c0, HM0.out.c1⟩ (fun hHeld => ?_)
              refine with_tabW made.tab19 made.bits19 (fun HT_ HW_ => ?_)
              refine pure_ (i := 0) (N := some 128) (v := ?_) (a' := ?_) #[true, false, false, false, false, false, false, false, false, false, false, false, false, false] rfl rfl (any_of HT_.out (by kernel_rfl)) (fun _ _ _ h => h) (Or.inl ⟨by rfl, ?_⟩) ?_ ?_
              rotate_left
              · intro w'
                go_simp
                with_reducible rfl
              rotate_left
              · simp only [Act.put, List.setIfInBounds_toArray, List.set_cons_zero, List.set_cons_succ, i64_w, i32_w]
                rfl
              refine pure_ (i := 1) (N := some 129) (v := ?_) (a' := ?_) #[true, true, false, false, false, false, false, false, false, false, false, false, false, false] rfl rfl (any_of HT_.out (by kernel_rfl)) (fun _ _ _ h => h) (Or.inl ⟨by rfl, ?_⟩) ?_ ?_
              rotate_left
              · intro w'
                go_simp
                with_reducible rfl
              rotate_left
              · simp only [Act.put, List.setIfInBounds_toArray, List.set_cons_zero, List.set_cons_succ, i64_w, i32_w]
                rfl
              refine pure_ (i := 2) (N := some 130) (v := ?_) (a' := ?_) #[true, true, true, false, false, false, false, false, false, false, false, false, false, false] rfl rfl (any_of HT_.out (by kernel_rfl)) (fun _ _ _ h => h) (Or.inl ⟨by rfl, ?_⟩) ?_ ?_
              rotate_left
              · intro w'
                go_simp
                with_reducible rfl
              rotate_left
              · simp only [Act.put, List.setIfInBounds_toArray, List.set_cons_zero, List.set_cons_succ, i64_w, i32_w]
                rfl
              refine pure_ (i := 3) (N := some 131) (v := ?_) (a' := ?_) #[true, true, true, true, false, false, false, false, false, false, false, false, false, false] rfl rfl (any_of HT_.out (by kernel_rfl)) (fun _ _ _ h => h) (Or.inl ⟨by rfl, ?_⟩) ?_ ?_
              rotate_left
              · intro w'
                go_simp
                with_reducible rfl
              rotate_left
              · simp only [Act.put, List.setIfInBounds_toArray, List.set_cons_zero, List.set_cons_succ, i64_w, i32_w]
                rfl
              refine take_ (i := 4) (N := some 132) (v := ?_) (a' := ?_) #[true, true, true, true, true, false, false, false, false, false, false, false, false, false] rfl rfl (take_ofW HT_.out HW_.out (by kernel_rfl)) (fun _ _ _ h => h) (Or.inl ⟨by rfl, ?_⟩) hHeld ?_ ?_
              rotate_left
              · rintro w' ⟨s0, s1⟩
                go_simp
                with_reducible rfl
              rotate_left
              · simp only [Act.put, List.setIfInBounds_toArray, List.set_cons_zero, List.set_cons_succ, i64_w, i32_w]
                rfl
              refine pure_ (i := 5) (N := some 133) (v := ?_) (a' := ?_) #[true, true, true, true, true, true, false, false, false, false, false, false, false, false] rfl rfl (any_of HT_.out (by kernel_rfl)) (fun _ _ _ h => h) (Or.inl ⟨by rfl, ?_⟩) ?_ ?_
              rotate_left
              · intro w'
                go_simp
                with_reducible rfl
              rotate_left
              · simp only [Act.put, List.setIfInBounds_toArray, List.set_cons_zero, List.set_cons_succ, i64_w, i32_w]
                rfl
              refine pure_ (i := 7) (N := some 135) (v := ?_) (a' := ?_) #[true, true, true, true, true, true, false, true, false, false, false, false, false, false] rfl rfl (any_of HT_.out (by kernel_rfl)) (fun _ _ _ h => h) (Or.inl ⟨by rfl, ?_⟩) ?_ ?_
              rotate_left
              · intro w'
                go_simp
                with_reducible rfl
              rotate_left
              · simp only [Act.put, List.setIfInBounds_toArray, List.set_cons_zero, List.set_cons_succ, i64_w, i32_w]
                rfl
              refine pure_ (i := 8) (N := some 136) (v := ?_) (a' := ?_) #[true, true, true, true, true, true, false, true, true, false, false, false, false, false] rfl rfl (any_of HT_.out (by kernel_rfl)) (fun _ _ _ h => h) (Or.inl ⟨by rfl, ?_⟩) ?_ ?_
              rotate_left
              · intro w'
                go_simp
                with_reducible rfl
              rotate_left
              · simp only [Act.put, List.setIfInBounds_toArray, List.set_cons_zero, List.set_cons_succ, i64_w, i32_w]
                rfl
              refine pure_ (i := 9) (N := some 137) (v := ?_) (a' := ?_) #[true, true, true, true, true, true, false, true, true, true, false, false, false, false] rfl rfl (any_of HT_.out (by kernel_rfl)) (fun _ _ _ h => h) (Or.inl ⟨by rfl, ?_⟩) ?_ ?_
              rotate_left
              · intro w'
                go_simp
                with_reducible rfl
              rotate_left
              · simp only [Act.put, List.setIfInBounds_toArray, List.set_cons_zero, List.set_cons_succ, i64_w, i32_w]
                rfl
              refine take_ (i := 10) (N := some 138) (v := ?_) (a' := ?_) #[true, true, true, true, true, true, false, true, true, true, true, false, false, false] rfl rfl (take_ofW HT_.out HW_.out (by kernel_rfl)) (fun _ _ _ h => h) (Or.inl ⟨by rfl, ?_⟩) hHeld ?_ ?_
              rotate_left
              · rintro w' ⟨s0, s1⟩
                go_simp
                with_reducible rfl
              rotate_left
              · simp only [Act.put, List.setIfInBounds_toArray, List.set_cons_zero, List.set_cons_succ, i64_w, i32_w]
                rfl
              refine pure_ (i := 11) (N := some 139) (v := ?_) (a' := ?_) #[true, true, true, true, true, true, false, true, true, true, true, true, false, false] rfl rfl (any_of HT_.out (by kernel_rfl)) (fun _ _ _ h => h) (Or.inl ⟨by rfl, ?_⟩) ?_ ?_
              rotate_left
              · intro w'
                go_simp
                with_reducible rfl
              rotate_left
              · simp only [Act.put, List.setIfInBounds_toArray, List.set_cons_zero, List.set_cons_succ, i64_w, i32_w]
                rfl
              refine one_ (i := 6) (N := some 134) #[true, true, true, true, true, true, true, true, true, true, true, true, false, false] rfl rfl (one_of HT_.out (by kernel_rfl)) (by decide) (fun K hK => ?_)
              refine goes_ Try.func18 (by kernel_rfl) rfl #[.pointer (some ⟨S, 0, none⟩), .int .i64 r5, .int .i64 (-2), .int .i64 (-1)] (by rfl) rfl rfl (by (try simp only [List.map_toArray, List.map_cons, List.map_nil]); first | done | rfl) ?_
              refine (HM0.out.two.callP (fun m v hS => HBO.out.1 S m v false _ hS)).mono ?_
              rintro e wc1 ⟨rfl, ht, hk⟩
              refine ⟨_, rfl, ?_⟩
              have HM1 := Aside0.mk (HM0.out.step hk ht)
              have HC1 := Aside0.mk (HC0.out.kq (hk.mono L71_3))
              have HL1 := Aside0.mk (HL0.out.trans hk.b)
              clear ht hk
              refine hK.out _ _ ⟨HM1.out.c0, HM1.out.c1⟩ (fun hHeld1 => ?_)
              clear hK K
              refine norm_ (a' := ?_) ?_ ?_
              rotate_left
              · show Act.put _ (some 134) _ = _
                simp only [Act.put, List.setIfInBounds_toArray, List.set_cons_zero, List.set_cons_succ, i64_w, i32_w]
                rfl
              refine one_ (i := 12) (N := some 140) #[true, true, true, true, true, true, true, true, true, true, true, true, true, false] rfl rfl (one_of HT_.out (by kernel_rfl)) (by decide) (fun K hK => ?_)
              refine goes_ Try.func27 (by kernel_rfl) rfl #[.pointer (some ⟨S', 0, none⟩), .int .i64 r5, .int .i64 (-2), .int .i64 (-1)] (by rfl) rfl rfl (by (try simp only [List.map_toArray, List.map_cons, List.map_nil]); first | done | rfl) ?_
              refine (HM1.out.two.callR (fun m v hS => HBO.out.2 S' m v false _ hS)).mono ?_
              rintro e wc2 ⟨rfl, ht, hk⟩
              refine ⟨_, rfl, ?_⟩
              have HM2 := Aside0.mk (HM1.out.step hk ht)
              have HC2 := Aside0.mk (HC1.out.kq (hk.mono L71_3))
              have HL2 := Aside0.mk (HL1.out.trans hk.b)
              clear ht hk
              refine hK.out _ _ ⟨HM2.out.c0, HM2.out.c1⟩ (fun hHeld2 => ?_)
              clear hK K
              refine norm_ (a' := ?_) ?_ ?_
              rotate_left
              · show Act.put _ (some 140) _ = _
                simp only [Act.put, List.setIfInBounds_toArray, List.set_cons_zero, List.set_cons_succ, i64_w, i32_w]
                rfl
              refine last_ (i := 13) (N := some 141) #[true, true, true, true, true, true, true, true, true, true, true, true, true, true] rfl rfl (one_of HT_.out (by kernel_rfl)) (by decide) (fun K hK => ?_)
              refine goes_ Try.func35 (by kernel_rfl) rfl #[.pointer (some ⟨G, 0, none⟩), .int .i64 r, .int .i64 r] (by rfl) rfl rfl (by (try simp only [List.map_toArray, List.map_cons, List.map_nil]); first | done | rfl) ?_
              refine (add_calls w0.heap.size wc2 G S S' (some ad) c (ns ++ ms) all r HS6.out.wf HM2.out HAL.out).mono ?_
              rintro e w10 ⟨rfl, ⟨A1, c1, hm⟩, hk⟩
              refine ⟨_, rfl, ?_⟩
              have HNX := Aside0.mk (HV.out.next HLL.out HLT.out (.inr HA5.out) HS6.out HMY.out hm (HC2.out.kq hk) (HL2.out.trans hk.b))
              clear hm hk
              refine hK.out _ _ ?_
              clear hK K
              refine done_ (done_of HT_.out (by kernel_rfl)) ?_
              clear hHeld hHeld1 hHeld2
              have q2 := HNX.out.mka.c2
              have hal := HNX.out.alen
              have hat := HNX.out.at1
              generalize (if r = -1002 then all else all ++ [r]) = X at HNX q2 hal ⊢
              have d200 : decide (200 < (X.length : Int)) = false := by simp; omega
              clear hal hat
              go_wp2
              go_roundg gk1
              case measure => omega
              case rel => exact ⟨at5, ns ++ ms, X, A1, c1, HNX, ⟨by have h1 := HK.out; have h2 := HA5.out; have h3 := HLT.out; omega⟩⟩
          · as_aux_lemma =>
              obtain ⟨ms, r, h1, h2, h3⟩ := ch_any HSX.out (by have := HN.out; omega) x1 x2 x3
              have HBO := Aside0.mk (both_choose HSX.out.wf (okI_valid HX1.out (by have := HN.out; omega)) h1)
              have HS6 := Aside0.mk h2
              have HMY := Aside0.mk h3
              clear h1 h2 h3
              go_upto_region 21 with fail
              have HM0 := Aside0.mk HM8.out.drew
              have HC0 : Aside0 (IsS71 w0 w8.drew C l at4) := ⟨HC8.out.drew⟩
              have HL0 : Aside0 (Below w0.heap.size w0 w8.drew) := ⟨HL8.out.drew⟩
              have HW8 : Aside0 (w8.drew.heap[b8]? = some (boxP x1)) := ⟨HY8.out⟩
              have HW9 : Aside0 (w8.drew.heap[b9]? = some (boxP x2)) := ⟨HY9.out⟩
              have HWa : Aside0 (w8.drew.heap[ba]? = some (boxP x3)) := ⟨HYa.out⟩
              refine start_ (n := 24) (S := fun w' => w'.cell? ⟨G, 0, none⟩ = some (.pointer (some ⟨S, 0, none⟩)) ∧ w'.cell? ⟨G, 1, none⟩ = some (.pointer (some ⟨S', 0, none⟩)) ∧ w'.cell? ⟨b8, 0, none⟩ = some (.int .i64 x1) ∧ w'.cell? ⟨b8, 1, none⟩ = some (.int .i64 x1) ∧ w'.cell? ⟨b9, 0, none⟩ = some (.int .i64 x2) ∧ w'.cell? ⟨b9, 1, none⟩ = some (.int .i64 x2) ∧ w'.cell? ⟨ba, 0, none⟩ = some (.int .i64 x3) ∧ w'.cell? ⟨ba, 1, none⟩ = some (.int .i64 x3)) (ds := [23]) #[false, false, false, false, false, false, false, false, false, false, false, false, false, false, false, false, false, false, false, false, false, false, false, false] (by kernel_rfl) rfl rfl ⟨HM0.out.c0, HM0.out.c1, (blk_cell HW8.out 0).trans rfl, (blk_cell HW8.out 1).trans rfl, (blk_cell HW9.out 0).trans rfl, (blk_cell HW9.out 1).trans rfl, (blk_cell HWa.out 0).trans rfl, (blk_cell HWa.out 1).trans rfl⟩ (fun hHeld => ?_)
              refine with_tabW made.tab21 made.bits21 (fun HT_ HW_ => ?_)
              refine pure_ (i := 0) (N := some 144) (v := ?_) (a' := ?_) #[true, false, false, false, false, false, false, false, false, false, false, false, false, false, false, false, false, false, false, false, false, false, false, false] rfl rfl (any_of HT_.out (by kernel_rfl)) (fun _ _ _ h => h) (Or.inl ⟨by rfl, ?_⟩) ?_ ?_
              rotate_left
              · intro w'
                go_simp
                with_reducible rfl
              rotate_left
              · simp only [Act.put, List.setIfInBounds_toArray, List.set_cons_zero, List.set_cons_succ, i64_w, i32_w]
                rfl
              refine pure_ (i := 1) (N := some 145) (v := ?_) (a' := ?_) #[true, true, false, false, false, false, false, false, false, false, false, false, false, false, false, false, false, false, false, false, false, false, false, false] rfl rfl (any_of HT_.out (by kernel_rfl)) (fun _ _ _ h => h) (Or.inl ⟨by rfl, ?_⟩) ?_ ?_
              rotate_left
              · intro w'
                go_simp
                with_reducible rfl
              rotate_left
              · simp only [Act.put, List.setIfInBounds_toArray, List.set_cons_zero, List.set_cons_succ, i64_w, i32_w]
                rfl
              refine pure_ (i := 2) (N := some 146) (v := ?_) (a' := ?_) #[true, true, true, false, false, false, false, false, false, false, false, false, false, false, false, false, false, false, false, false, false, false, false, false] rfl rfl (any_of HT_.out (by kernel_rfl)) (fun _ _ _ h => h) (Or.inl ⟨by rfl, ?_⟩) ?_ ?_
              rotate_left
              · intro w'
                go_simp
                with_reducible rfl
              rotate_left
              · simp only [Act.put, List.setIfInBounds_toArray, List.set_cons_zero, List.set_cons_succ, i64_w, i32_w]
                rfl
              refine pure_ (i := 3) (N := some 147) (v := ?_) (a' := ?_) #[true, true, true, true, false, false, false, false, false, false, false, false, false, false, false, false, false, false, false, false, false, false, false, false] rfl rfl (any_of HT_.out (by kernel_rfl)) (fun _ _ _ h => h) (Or.inl ⟨by rfl, ?_⟩) ?_ ?_
              rotate_left
              · intro w'
                go_simp
                with_reducible rfl
              rotate_left
              · simp only [Act.put, List.setIfInBounds_toArray, List.set_cons_zero, List.set_cons_succ, i64_w, i32_w]
                rfl
              refine take_ (i := 4) (N := some 148) (v := ?_) (a' := ?_) #[true, true, true, true, true, false, false, false, false, false, false, false, false, false, false, false, false, false, false, false, false, false, false, false] rfl rfl (take_ofW HT_.out HW_.out (by kernel_rfl)) (fun _ _ _ h => h) (Or.inl ⟨by rfl, ?_⟩) hHeld ?_ ?_
              rotate_left
              · rintro w' ⟨s0, s1, s2, s3, s4, s5, s6, s7⟩
                go_simp
                with_reducible rfl
              rotate_left
              · simp only [Act.put, List.setIfInBounds_toArray, List.set_cons_zero, List.set_cons_succ, i64_w, i32_w]
                rfl
              refine pure_ (i := 5) (N := some 149) (v := ?_) (a' := ?_) #[true, true, true, true, true, true, false, false, false, false, false, false, false, false, false, false, false, false, false, false, false, false, false, false] rfl rfl (any_of HT_.out (by kernel_rfl)) (fun _ _ _ h => h) (Or.inl ⟨by rfl, ?_⟩) ?_ ?_
              rotate_left
              · intro w'
                go_simp
                with_reducible rfl
              rotate_left
              · simp only [Act.put, List.setIfInBounds_toArray, List.set_cons_zero, List.set_cons_succ, i64_w, i32_w]
                rfl
              refine take_ (i := 6) (N := some 150) (v := ?_) (a' := ?_) #[true, true, true, true, true, true, true, false, false, false, false, false, false, false, false, false, false, false, false, false, false, false, false, false] rfl rfl (take_ofW HT_.out HW_.out (by kernel_rfl)) (fun _ _ _ h => h) (Or.inl ⟨by rfl, ?_⟩) hHeld ?_ ?_
              rotate_left
              · rintro w' ⟨s0, s1, s2, s3, s4, s5, s6, s7⟩
                go_simp
                with_reducible rfl
              rotate_left
              · simp only [Act.put, List.setIfInBounds_toArray, List.set_cons_zero, List.set_cons_succ, i64_w, i32_w]
                rfl
              refine pure_ (i := 7) (N := some 151) (v := ?_) (a' := ?_) #[true, true, true, true, true, true, true, true, false, false, false, false, false, false, false, false, false, false, false, false, false, false, false, false] rfl rfl (any_of HT_.out (by kernel_rfl)) (fun _ _ _ h => h) (Or.inl ⟨by rfl, ?_⟩) ?_ ?_
              rotate_left
              · intro w'
                go_simp
                with_reducible rfl
              rotate_left
              · simp only [Act.put, List.setIfInBounds_toArray, List.set_cons_zero, List.set_cons_succ, i64_w, i32_w]
                rfl
              refine take_ (i := 8) (N := some 152) (v := ?_) (a' := ?_) #[true, true, true, true, true, true, true, true, true, false, false, false, false, false, false, false, false, false, false, false, false, false, false, false] rfl rfl (take_ofW HT_.out HW_.out (by kernel_rfl)) (fun _ _ _ h => h) (Or.inl ⟨by rfl, ?_⟩) hHeld ?_ ?_
              rotate_left
              · rintro w' ⟨s0, s1, s2, s3, s4, s5, s6, s7⟩
                go_simp
                with_reducible rfl
              rotate_left
              · simp only [Act.put, List.setIfInBounds_toArray, List.set_cons_zero, List.set_cons_succ, i64_w, i32_w]
                rfl
              refine pure_ (i := 9) (N := some 153) (v := ?_) (a' := ?_) #[true, true, true, true, true, true, true, true, true, true, false, false, false, false, false, false, false, false, false, false, false, false, false, false] rfl rfl (any_of HT_.out (by kernel_rfl)) (fun _ _ _ h => h) (Or.inl ⟨by rfl, ?_⟩) ?_ ?_
              rotate_left
              · intro w'
                go_simp
                with_reducible rfl
              rotate_left
              · simp only [Act.put, List.setIfInBounds_toArray, List.set_cons_zero, List.set_cons_succ, i64_w, i32_w]
                rfl
              refine take_ (i := 10) (N := some 154) (v := ?_) (a' := ?_) #[true, true, true, true, true, true, true, true, true, true, true, false, false, false, false, false, false, false, false, false, false, false, false, false] rfl rfl (take_ofW HT_.out HW_.out (by kernel_rfl)) (fun _ _ _ h => h) (Or.inl ⟨by rfl, ?_⟩) hHeld ?_ ?_
              rotate_left
              · rintro w' ⟨s0, s1, s2, s3, s4, s5, s6, s7⟩
                go_simp
                with_reducible rfl
              rotate_left
              · simp only [Act.put, List.setIfInBounds_toArray, List.set_cons_zero, List.set_cons_succ, i64_w, i32_w]
                rfl
              refine pure_ (i := 12) (N := some 156) (v := ?_) (a' := ?_) #[true, true, true, true, true, true, true, true, true, true, true, false, true, false, false, false, false, false, false, false, false, false, false, false] rfl rfl (any_of HT_.out (by kernel_rfl)) (fun _ _ _ h => h) (Or.inl ⟨by rfl, ?_⟩) ?_ ?_
              rotate_left
              · intro w'
                go_simp
                with_reducible rfl
              rotate_left
              · simp only [Act.put, List.setIfInBounds_toArray, List.set_cons_zero, List.set_cons_succ, i64_w, i32_w]
                rfl
              refine pure_ (i := 13) (N := some 157) (v := ?_) (a' := ?_) #[true, true, true, true, true, true, true, true, true, true, true, false, true, true, false, false, false, false, false, false, false, false, false, false] rfl rfl (any_of HT_.out (by kernel_rfl)) (fun _ _ _ h => h) (Or.inl ⟨by rfl, ?_⟩) ?_ ?_
              rotate_left
              · intro w'
                go_simp
                with_reducible rfl
              rotate_left
              · simp only [Act.put, List.setIfInBounds_toArray, List.set_cons_zero, List.set_cons_succ, i64_w, i32_w]
                rfl
              refine pure_ (i := 14) (N := some 158) (v := ?_) (a' := ?_) #[true, true, true, true, true, true, true, true, true, true, true, false, true, true, true, false, false, false, false, false, false, false, false, false] rfl rfl (any_of HT_.out (by kernel_rfl)) (fun _ _ _ h => h) (Or.inl ⟨by rfl, ?_⟩) ?_ ?_
              rotate_left
              · intro w'
                go_simp
                with_reducible rfl
              rotate_left
              · simp only [Act.put, List.setIfInBounds_toArray, List.set_cons_zero, List.set_cons_succ, i64_w, i32_w]
                rfl
              refine take_ (i := 15) (N := some 159) (v := ?_) (a' := ?_) #[true, true, true, true, true, true, true, true, true, true, true, false, true, true, true, true, false, false, false, false, false, false, false, false] rfl rfl (take_ofW HT_.out HW_.out (by kernel_rfl)) (fun _ _ _ h => h) (Or.inl ⟨by rfl, ?_⟩) hHeld ?_ ?_
              rotate_left
              · rintro w' ⟨s0, s1, s2, s3, s4, s5, s6, s7⟩
                go_simp
                with_reducible rfl
              rotate_left
              · simp only [Act.put, List.setIfInBounds_toArray, List.set_cons_zero, List.set_cons_succ, i64_w, i32_w]
                rfl
              refine pure_ (i := 16) (N := some 160) (v := ?_) (a' := ?_) #[true, true, true, true, true, true, true, true, true, true, true, false, true, true, true, true, true, false, false, false, false, false, false, false] rfl rfl (any_of HT_.out (by kernel_rfl)) (fun _ _ _ h => h) (Or.inl ⟨by rfl, ?_⟩) ?_ ?_
              rotate_left
              · intro w'
                go_simp
                with_reducible rfl
              rotate_left
              · simp only [Act.put, List.setIfInBounds_toArray, List.set_cons_zero, List.set_cons_succ, i64_w, i32_w]
                rfl
              refine take_ (i := 17) (N := some 161) (v := ?_) (a' := ?_) #[true, true, true, true, true, true, true, true, true, true, true, false, true, true, true, true, true, true, false, false, false, false, false, false] rfl rfl (take_ofW HT_.out HW_.out (by kernel_rfl)) (fun _ _ _ h => h) (Or.inl ⟨by rfl, ?_⟩) hHeld ?_ ?_
              rotate_left
              · rintro w' ⟨s0, s1, s2, s3, s4, s5, s6, s7⟩
                go_simp
                with_reducible rfl
              rotate_left
              · simp only [Act.put, List.setIfInBounds_toArray, List.set_cons_zero, List.set_cons_succ, i64_w, i32_w]
                rfl
              refine pure_ (i := 18) (N := some 162) (v := ?_) (a' := ?_) #[true, true, true, true, true, true, true, true, true, true, true, false, true, true, true, true, true, true, true, false, false, false, false, false] rfl rfl (any_of HT_.out (by kernel_rfl)) (fun _ _ _ h => h) (Or.inl ⟨by rfl, ?_⟩) ?_ ?_
              rotate_left
              · intro w'
                go_simp
                with_reducible rfl
              rotate_left
              · simp only [Act.put, List.setIfInBounds_toArray, List.set_cons_zero, List.set_cons_succ, i64_w, i32_w]
                rfl
              refine take_ (i := 19) (N := some 163) (v := ?_) (a' := ?_) #[true, true, true, true, true, true, true, true, true, true, true, false, true, true, true, true, true, true, true, true, false, false, false, false] rfl rfl (take_ofW HT_.out HW_.out (by kernel_rfl)) (fun _ _ _ h => h) (Or.inl ⟨by rfl, ?_⟩) hHeld ?_ ?_
              rotate_left
              · rintro w' ⟨s0, s1, s2, s3, s4, s5, s6, s7⟩
                go_simp
                with_reducible rfl
              rotate_left
              · simp only [Act.put, List.setIfInBounds_toArray, List.set_cons_zero, List.set_cons_succ, i64_w, i32_w]
                rfl
              refine pure_ (i := 20) (N := some 164) (v := ?_) (a' := ?_) #[true, true, true, true, true, true, true, true, true, true, true, false, true, true, true, true, true, true, true, true, true, false, false, false] rfl rfl (any_of HT_.out (by kernel_rfl)) (fun _ _ _ h => h) (Or.inl ⟨by rfl, ?_⟩) ?_ ?_
              rotate_left
              · intro w'
                go_simp
                with_reducible rfl
              rotate_left
              · simp only [Act.put, List.setIfInBounds_toArray, List.set_cons_zero, List.set_cons_succ, i64_w, i32_w]
                rfl
              refine take_ (i := 21) (N := some 165) (v := ?_) (a' := ?_) #[true, true, true, true, true, true, true, true, true, true, true, false, true, true, true, true, true, true, true, true, true, true, false, false] rfl rfl (take_ofW HT_.out HW_.out (by kernel_rfl)) (fun _ _ _ h => h) (Or.inl ⟨by rfl, ?_⟩) hHeld ?_ ?_
              rotate_left
              · rintro w' ⟨s0, s1, s2, s3, s4, s5, s6, s7⟩
                go_simp
                with_reducible rfl
              rotate_left
              · simp only [Act.put, List.setIfInBounds_toArray, List.set_cons_zero, List.set_cons_succ, i64_w, i32_w]
                rfl
              refine one_ (i := 11) (N := some 155) #[true, true, true, true, true, true, true, true, true, true, true, true, true, true, true, true, true, true, true, true, true, true, false, false] rfl rfl (one_of HT_.out (by kernel_rfl)) (by decide) (fun K hK => ?_)
              refine goes_ Try.func32 (by kernel_rfl) rfl #[.pointer (some ⟨S, 0, none⟩), .int .i64 x1, .int .i64 x2, .int .i64 x3] (by rfl) rfl rfl (by (try simp only [List.map_toArray, List.map_cons, List.map_nil]); first | done | rfl) ?_
              refine (HM0.out.two.callP (fun m v hS => HBO.out.1 S m v false _ hS)).mono ?_
              rintro e wc1 ⟨rfl, ht, hk⟩
              refine ⟨_, rfl, ?_⟩
              have HM1 := Aside0.mk (HM0.out.step hk ht)
              have HC1 := Aside0.mk (HC0.out.kq (hk.mono L71_3))
              have HL1 := Aside0.mk (HL0.out.trans hk.b)
              have HV18 : Aside0 (wc1.heap[b8]? = some (boxP x1)) := ⟨hk.box _ _ _ _ HW8.out (by unfold L3; decide)⟩
              have HV19 : Aside0 (wc1.heap[b9]? = some (boxP x2)) := ⟨hk.box _ _ _ _ HW9.out (by unfold L3; decide)⟩
              have HV1a : Aside0 (wc1.heap[ba]? = some (boxP x3)) := ⟨hk.box _ _ _ _ HWa.out (by unfold L3; decide)⟩
              clear ht hk
              refine hK.out _ _ ⟨HM1.out.c0, HM1.out.c1, (blk_cell HV18.out 0).trans rfl, (blk_cell HV18.out 1).trans rfl, (blk_cell HV19.out 0).trans rfl, (blk_cell HV19.out 1).trans rfl, (blk_cell HV1a.out 0).trans rfl, (blk_cell HV1a.out 1).trans rfl⟩ (fun hHeld1 => ?_)
              clear hK K
              refine norm_ (a' := ?_) ?_ ?_
              rotate_left
              · show Act.put _ (some 155) _ = _
                simp only [Act.put, List.setIfInBounds_toArray, List.set_cons_zero, List.set_cons_succ, i64_w, i32_w]
                rfl
              refine one_ (i := 22) (N := some 166) #[true, true, true, true, true, true, true, true, true, true, true, true, true, true, true, true, true, true, true, true, true, true, true, false] rfl rfl (one_of HT_.out (by kernel_rfl)) (by decide) (fun K hK => ?_)
              refine goes_ Try.func33 (by kernel_rfl) rfl #[.pointer (some ⟨S', 0, none⟩), .int .i64 x1, .int .i64 x2, .int .i64 x3] (by rfl) rfl rfl (by (try simp only [List.map_toArray, List.map_cons, List.map_nil]); first | done | rfl) ?_
              refine (HM1.out.two.callR (fun m v hS => HBO.out.2 S' m v false _ hS)).mono ?_
              rintro e wc2 ⟨rfl, ht, hk⟩
              refine ⟨_, rfl, ?_⟩
              have HM2 := Aside0.mk (HM1.out.step hk ht)
              have HC2 := Aside0.mk (HC1.out.kq (hk.mono L71_3))
              have HL2 := Aside0.mk (HL1.out.trans hk.b)
              have HV28 : Aside0 (wc2.heap[b8]? = some (boxP x1)) := ⟨hk.box _ _ _ _ HV18.out (by unfold L3; decide)⟩
              have HV29 : Aside0 (wc2.heap[b9]? = some (boxP x2)) := ⟨hk.box _ _ _ _ HV19.out (by unfold L3; decide)⟩
              have HV2a : Aside0 (wc2.heap[ba]? = some (boxP x3)) := ⟨hk.box _ _ _ _ HV1a.out (by unfold L3; decide)⟩
              clear ht hk
              refine hK.out _ _ ⟨HM2.out.c0, HM2.out.c1, (blk_cell HV28.out 0).trans rfl, (blk_cell HV28.out 1).trans rfl, (blk_cell HV29.out 0).trans rfl, (blk_cell HV29.out 1).trans rfl, (blk_cell HV2a.out 0).trans rfl, (blk_cell HV2a.out 1).trans rfl⟩ (fun hHeld2 => ?_)
              clear hK K
              refine norm_ (a' := ?_) ?_ ?_
              rotate_left
              · show Act.put _ (some 166) _ = _
                simp only [Act.put, List.setIfInBounds_toArray, List.set_cons_zero, List.set_cons_succ, i64_w, i32_w]
                rfl
              refine last_ (i := 23) (N := some 167) #[true, true, true, true, true, true, true, true, true, true, true, true, true, true, true, true, true, true, true, true, true, true, true, true] rfl rfl (one_of HT_.out (by kernel_rfl)) (by decide) (fun K hK => ?_)
              refine goes_ Try.func35 (by kernel_rfl) rfl #[.pointer (some ⟨G, 0, none⟩), .int .i64 r, .int .i64 r] (by rfl) rfl rfl (by (try simp only [List.map_toArray, List.map_cons, List.map_nil]); first | done | rfl) ?_
              refine (add_calls w0.heap.size wc2 G S S' (some ad) c (ns ++ ms) all r HS6.out.wf HM2.out HAL.out).mono ?_
              rintro e w10 ⟨rfl, ⟨A1, c1, hm⟩, hk⟩
              refine ⟨_, rfl, ?_⟩
              have HNX := Aside0.mk (HV.out.next HLL.out HLT.out (.inl HA4.out) HS6.out HMY.out hm (HC2.out.kq hk) (HL2.out.trans hk.b))
              clear hm hk
              refine hK.out _ _ ?_
              clear hK K
              refine done_ (done_of HT_.out (by kernel_rfl)) ?_
              clear hHeld hHeld1 hHeld2
              have q2 := HNX.out.mka.c2
              have hal := HNX.out.alen
              have hat := HNX.out.at1
              generalize (if r = -1002 then all else all ++ [r]) = X at HNX q2 hal ⊢
              have d200 : decide (200 < (X.length : Int)) = false := by simp; omega
              clear hal hat
              go_wp2
              go_roundg gk1
              case measure => omega
              case rel => exact ⟨at4, ns ++ ms, X, A1, c1, HNX, ⟨by have h1 := HK.out; have h2 := HA4.out; have h3 := HLT.out; omega⟩⟩
          · as_aux_lemma =>
              obtain ⟨ms, r, h1, h2, h3⟩ := and_any HSX.out (by have := HN.out; omega) x1 x2
              have HBO := Aside0.mk (both_and HSX.out.wf (okI_valid HX1.out (by have := HN.out; omega)) (okI_valid HX2.out (by have := HN.out; omega)) h1)
              have HS6 := Aside0.mk h2
              have HMY := Aside0.mk h3
              clear h1 h2 h3
              go_upto_region 23 with fail
              have HM0 := Aside0.mk HM8.out.drew
              have HC0 : Aside0 (IsS71 w0 w8.drew C l at4) := ⟨HC8.out.drew⟩
              have HL0 : Aside0 (Below w0.heap.size w0 w8.drew) := ⟨HL8.out.drew⟩
              have HW8 : Aside0 (w8.drew.heap[b8]? = some (boxP x1)) := ⟨HY8.out⟩
              have HW9 : Aside0 (w8.drew.heap[b9]? = some (boxP x2)) := ⟨HY9.out⟩
              have HWa : Aside0 (w8.drew.heap[ba]? = some (boxP x3)) := ⟨HYa.out⟩
              refine start_ (n := 20) (S := fun w' => w'.cell? ⟨G, 0, none⟩ = some (.pointer (some ⟨S, 0, none⟩)) ∧ w'.cell? ⟨G, 1, none⟩ = some (.pointer (some ⟨S', 0, none⟩)) ∧ w'.cell? ⟨b8, 0, none⟩ = some (.int .i64 x1) ∧ w'.cell? ⟨b8, 1, none⟩ = some (.int .i64 x1) ∧ w'.cell? ⟨b9, 0, none⟩ = some (.int .i64 x2) ∧ w'.cell? ⟨b9, 1, none⟩ = some (.int .i64 x2)) (ds := [19]) #[false, false, false, false, false, false, false, false, false, false, false, false, false, false, false, false, false, false, false, false] (by kernel_rfl) rfl rfl ⟨HM0.out.c0, HM0.out.c1, (blk_cell HW8.out 0).trans rfl, (blk_cell HW8.out 1).trans rfl, (blk_cell HW9.out 0).trans rfl, (blk_cell HW9.out 1).trans rfl⟩ (fun hHeld => ?_)
              refine with_tabW made.tab23 made.bits23 (fun HT_ HW_ => ?_)
              refine pure_ (i := 0) (N := some 170) (v := ?_) (a' := ?_) #[true, false, false, false, false, false, false, false, false, false, false, false, false, false, false, false, false, false, false, false] rfl rfl (any_of HT_.out (by kernel_rfl)) (fun _ _ _ h => h) (Or.inl ⟨by rfl, ?_⟩) ?_ ?_
              rotate_left
              · intro w'
                go_simp
                with_reducible rfl
              rotate_left
              · simp only [Act.put, List.setIfInBounds_toArray, List.set_cons_zero, List.set_cons_succ, i64_w, i32_w]
                rfl
              refine pure_ (i := 1) (N := some 171) (v := ?_) (a' := ?_) #[true, true, false, false, false, false, false, false, false, false, false, false, false, false, false, false, false, false, false, false] rfl rfl (any_of HT_.out (by kernel_rfl)) (fun _ _ _ h => h) (Or.inl ⟨by rfl, ?_⟩) ?_ ?_
              rotate_left
              · intro w'
                go_simp
                with_reducible rfl
              rotate_left
              · simp only [Act.put, List.setIfInBounds_toArray, List.set_cons_zero, List.set_cons_succ, i64_w, i32_w]
                rfl
              refine pure_ (i := 2) (N := some 172) (v := ?_) (a' := ?_) #[true, true, true, false, false, false, false, false, false, false, false, false, false, false, false, false, false, false, false, false] rfl rfl (any_of HT_.out (by kernel_rfl)) (fun _ _ _ h => h) (Or.inl ⟨by rfl, ?_⟩) ?_ ?_
              rotate_left
              · intro w'
                go_simp
                with_reducible rfl
              rotate_left
              · simp only [Act.put, List.setIfInBounds_toArray, List.set_cons_zero, List.set_cons_succ, i64_w, i32_w]
                rfl
              refine pure_ (i := 3) (N := some 173) (v := ?_) (a' := ?_) #[true, true, true, true, false, false, false, false, false, false, false, false, false, false, false, false, false, false, false, false] rfl rfl (any_of HT_.out (by kernel_rfl)) (fun _ _ _ h => h) (Or.inl ⟨by rfl, ?_⟩) ?_ ?_
              rotate_left
              · intro w'
                go_simp
                with_reducible rfl
              rotate_left
              · simp only [Act.put, List.setIfInBounds_toArray, List.set_cons_zero, List.set_cons_succ, i64_w, i32_w]
                rfl
              refine take_ (i := 4) (N := some 174) (v := ?_) (a' := ?_) #[true, true, true, true, true, false, false, false, false, false, false, false, false, false, false, false, false, false, false, false] rfl rfl (take_ofW HT_.out HW_.out (by kernel_rfl)) (fun _ _ _ h => h) (Or.inl ⟨by rfl, ?_⟩) hHeld ?_ ?_
              rotate_left
              · rintro w' ⟨s0, s1, s2, s3, s4, s5⟩
                go_simp
                with_reducible rfl
              rotate_left
              · simp only [Act.put, List.setIfInBounds_toArray, List.set_cons_zero, List.set_cons_succ, i64_w, i32_w]
                rfl
              refine pure_ (i := 5) (N := some 175) (v := ?_) (a' := ?_) #[true, true, true, true, true, true, false, false, false, false, false, false, false, false, false, false, false, false, false, false] rfl rfl (any_of HT_.out (by kernel_rfl)) (fun _ _ _ h => h) (Or.inl ⟨by rfl, ?_⟩) ?_ ?_
              rotate_left
              · intro w'
                go_simp
                with_reducible rfl
              rotate_left
              · simp only [Act.put, List.setIfInBounds_toArray, List.set_cons_zero, List.set_cons_succ, i64_w, i32_w]
                rfl
              refine take_ (i := 6) (N := some 176) (v := ?_) (a' := ?_) #[true, true, true, true, true, true, true, false, false, false, false, false, false, false, false, false, false, false, false, false] rfl rfl (take_ofW HT_.out HW_.out (by kernel_rfl)) (fun _ _ _ h => h) (Or.inl ⟨by rfl, ?_⟩) hHeld ?_ ?_
              rotate_left
              · rintro w' ⟨s0, s1, s2, s3, s4, s5⟩
                go_simp
                with_reducible rfl
              rotate_left
              · simp only [Act.put, List.setIfInBounds_toArray, List.set_cons_zero, List.set_cons_succ, i64_w, i32_w]
                rfl
              refine pure_ (i := 7) (N := some 177) (v := ?_) (a' := ?_) #[true, true, true, true, true, true, true, true, false, false, false, false, false, false, false, false, false, false, false, false] rfl rfl (any_of HT_.out (by kernel_rfl)) (fun _ _ _ h => h) (Or.inl ⟨by rfl, ?_⟩) ?_ ?_
              rotate_left
              · intro w'
                go_simp
                with_reducible rfl
              rotate_left
              · simp only [Act.put, List.setIfInBounds_toArray, List.set_cons_zero, List.set_cons_succ, i64_w, i32_w]
                rfl
              refine take_ (i := 8) (N := some 178) (v := ?_) (a' := ?_) #[true, true, true, true, true, true, true, true, true, false, false, false, false, false, false, false, false, false, false, false] rfl rfl (take_ofW HT_.out HW_.out (by kernel_rfl)) (fun _ _ _ h => h) (Or.inl ⟨by rfl, ?_⟩) hHeld ?_ ?_
              rotate_left
              · rintro w' ⟨s0, s1, s2, s3, s4, s5⟩
                go_simp
                with_reducible rfl
              rotate_left
              · simp only [Act.put, List.setIfInBounds_toArray, List.set_cons_zero, List.set_cons_succ, i64_w, i32_w]
                rfl
              refine pure_ (i := 10) (N := some 180) (v := ?_) (a' := ?_) #[true, true, true, true, true, true, true, true, true, false, true, false, false, false, false, false, false, false, false, false] rfl rfl (any_of HT_.out (by kernel_rfl)) (fun _ _ _ h => h) (Or.inl ⟨by rfl, ?_⟩) ?_ ?_
              rotate_left
              · intro w'
                go_simp
                with_reducible rfl
              rotate_left
              · simp only [Act.put, List.setIfInBounds_toArray, List.set_cons_zero, List.set_cons_succ, i64_w, i32_w]
                rfl
              refine pure_ (i := 11) (N := some 181) (v := ?_) (a' := ?_) #[true, true, true, true, true, true, true, true, true, false, true, true, false, false, false, false, false, false, false, false] rfl rfl (any_of HT_.out (by kernel_rfl)) (fun _ _ _ h => h) (Or.inl ⟨by rfl, ?_⟩) ?_ ?_
              rotate_left
              · intro w'
                go_simp
                with_reducible rfl
              rotate_left
              · simp only [Act.put, List.setIfInBounds_toArray, List.set_cons_zero, List.set_cons_succ, i64_w, i32_w]
                rfl
              refine pure_ (i := 12) (N := some 182) (v := ?_) (a' := ?_) #[true, true, true, true, true, true, true, true, true, false, true, true, true, false, false, false, false, false, false, false] rfl rfl (any_of HT_.out (by kernel_rfl)) (fun _ _ _ h => h) (Or.inl ⟨by rfl, ?_⟩) ?_ ?_
              rotate_left
              · intro w'
                go_simp
                with_reducible rfl
              rotate_left
              · simp only [Act.put, List.setIfInBounds_toArray, List.set_cons_zero, List.set_cons_succ, i64_w, i32_w]
                rfl
              refine take_ (i := 13) (N := some 183) (v := ?_) (a' := ?_) #[true, true, true, true, true, true, true, true, true, false, true, true, true, true, false, false, false, false, false, false] rfl rfl (take_ofW HT_.out HW_.out (by kernel_rfl)) (fun _ _ _ h => h) (Or.inl ⟨by rfl, ?_⟩) hHeld ?_ ?_
              rotate_left
              · rintro w' ⟨s0, s1, s2, s3, s4, s5⟩
                go_simp
                with_reducible rfl
              rotate_left
              · simp only [Act.put, List.setIfInBounds_toArray, List.set_cons_zero, List.set_cons_succ, i64_w, i32_w]
                rfl
              refine pure_ (i := 14) (N := some 184) (v := ?_) (a' := ?_) #[true, true, true, true, true, true, true, true, true, false, true, true, true, true, true, false, false, false, false, false] rfl rfl (any_of HT_.out (by kernel_rfl)) (fun _ _ _ h => h) (Or.inl ⟨by rfl, ?_⟩) ?_ ?_
              rotate_left
              · intro w'
                go_simp
                with_reducible rfl
              rotate_left
              · simp only [Act.put, List.setIfInBounds_toArray, List.set_cons_zero, List.set_cons_succ, i64_w, i32_w]
                rfl
              refine take_ (i := 15) (N := some 185) (v := ?_) (a' := ?_) #[true, true, true, true, true, true, true, true, true, false, true, true, true, true, true, true, false, false, false, false] rfl rfl (take_ofW HT_.out HW_.out (by kernel_rfl)) (fun _ _ _ h => h) (Or.inl ⟨by rfl, ?_⟩) hHeld ?_ ?_
              rotate_left
              · rintro w' ⟨s0, s1, s2, s3, s4, s5⟩
                go_simp
                with_reducible rfl
              rotate_left
              · simp only [Act.put, List.setIfInBounds_toArray, List.set_cons_zero, List.set_cons_succ, i64_w, i32_w]
                rfl
              refine pure_ (i := 16) (N := some 186) (v := ?_) (a' := ?_) #[true, true, true, true, true, true, true, true, true, false, true, true, true, true, true, true, true, false, false, false] rfl rfl (any_of HT_.out (by kernel_rfl)) (fun _ _ _ h => h) (Or.inl ⟨by rfl, ?_⟩) ?_ ?_
              rotate_left
              · intro w'
                go_simp
                with_reducible rfl
              rotate_left
              · simp only [Act.put, List.setIfInBounds_toArray, List.set_cons_zero, List.set_cons_succ, i64_w, i32_w]
                rfl
              refine take_ (i := 17) (N := some 187) (v := ?_) (a' := ?_) #[true, true, true, true, true, true, true, true, true, false, true, true, true, true, true, true, true, true, false, false] rfl rfl (take_ofW HT_.out HW_.out (by kernel_rfl)) (fun _ _ _ h => h) (Or.inl ⟨by rfl, ?_⟩) hHeld ?_ ?_
              rotate_left
              · rintro w' ⟨s0, s1, s2, s3, s4, s5⟩
                go_simp
                with_reducible rfl
              rotate_left
              · simp only [Act.put, List.setIfInBounds_toArray, List.set_cons_zero, List.set_cons_succ, i64_w, i32_w]
                rfl
              refine one_ (i := 9) (N := some 179) #[true, true, true, true, true, true, true, true, true, true, true, true, true, true, true, true, true, true, false, false] rfl rfl (one_of HT_.out (by kernel_rfl)) (by decide) (fun K hK => ?_)
              refine goes_ Try.func21 (by kernel_rfl) rfl #[.pointer (some ⟨S, 0, none⟩), .int .i64 x1, .int .i64 x2] (by rfl) rfl rfl (by (try simp only [List.map_toArray, List.map_cons, List.map_nil]); first | done | rfl) ?_
              refine (HM0.out.two.callP (fun m v hS => HBO.out.1 S m v false _ hS)).mono ?_
              rintro e wc1 ⟨rfl, ht, hk⟩
              refine ⟨_, rfl, ?_⟩
              have HM1 := Aside0.mk (HM0.out.step hk ht)
              have HC1 := Aside0.mk (HC0.out.kq (hk.mono L71_3))
              have HL1 := Aside0.mk (HL0.out.trans hk.b)
              have HV18 : Aside0 (wc1.heap[b8]? = some (boxP x1)) := ⟨hk.box _ _ _ _ HW8.out (by unfold L3; decide)⟩
              have HV19 : Aside0 (wc1.heap[b9]? = some (boxP x2)) := ⟨hk.box _ _ _ _ HW9.out (by unfold L3; decide)⟩
              clear ht hk
              refine hK.out _ _ ⟨HM1.out.c0, HM1.out.c1, (blk_cell HV18.out 0).trans rfl, (blk_cell HV18.out 1).trans rfl, (blk_cell HV19.out 0).trans rfl, (blk_cell HV19.out 1).trans rfl⟩ (fun hHeld1 => ?_)
              clear hK K
              refine norm_ (a' := ?_) ?_ ?_
              rotate_left
              · show Act.put _ (some 179) _ = _
                simp only [Act.put, List.setIfInBounds_toArray, List.set_cons_zero, List.set_cons_succ, i64_w, i32_w]
                rfl
              refine one_ (i := 18) (N := some 188) #[true, true, true, true, true, true, true, true, true, true, true, true, true, true, true, true, true, true, true, false] rfl rfl (one_of HT_.out (by kernel_rfl)) (by decide) (fun K hK => ?_)
              refine goes_ Try.func29 (by kernel_rfl) rfl #[.pointer (some ⟨S', 0, none⟩), .int .i64 x1, .int .i64 x2] (by rfl) rfl rfl (by (try simp only [List.map_toArray, List.map_cons, List.map_nil]); first | done | rfl) ?_
              refine (HM1.out.two.callR (fun m v hS => HBO.out.2 S' m v false _ hS)).mono ?_
              rintro e wc2 ⟨rfl, ht, hk⟩
              refine ⟨_, rfl, ?_⟩
              have HM2 := Aside0.mk (HM1.out.step hk ht)
              have HC2 := Aside0.mk (HC1.out.kq (hk.mono L71_3))
              have HL2 := Aside0.mk (HL1.out.trans hk.b)
              have HV28 : Aside0 (wc2.heap[b8]? = some (boxP x1)) := ⟨hk.box _ _ _ _ HV18.out (by unfold L3; decide)⟩
              have HV29 : Aside0 (wc2.heap[b9]? = some (boxP x2)) := ⟨hk.box _ _ _ _ HV19.out (by unfold L3; decide)⟩
              clear ht hk
              refine hK.out _ _ ⟨HM2.out.c0, HM2.out.c1, (blk_cell HV28.out 0).trans rfl, (blk_cell HV28.out 1).trans rfl, (blk_cell HV29.out 0).trans rfl, (blk_cell HV29.out 1).trans rfl⟩ (fun hHeld2 => ?_)
              clear hK K
              refine norm_ (a' := ?_) ?_ ?_
              rotate_left
              · show Act.put _ (some 188) _ = _
                simp only [Act.put, List.setIfInBounds_toArray, List.set_cons_zero, List.set_cons_succ, i64_w, i32_w]
                rfl
              refine last_ (i := 19) (N := some 189) #[true, true, true, true, true, true, true, true, true, true, true, true, true, true, true, true, true, true, true, true] rfl rfl (one_of HT_.out (by kernel_rfl)) (by decide) (fun K hK => ?_)
              refine goes_ Try.func35 (by kernel_rfl) rfl #[.pointer (some ⟨G, 0, none⟩), .int .i64 r, .int .i64 r] (by rfl) rfl rfl (by (try simp only [List.map_toArray, List.map_cons, List.map_nil]); first | done | rfl) ?_
              refine (add_calls w0.heap.size wc2 G S S' (some ad) c (ns ++ ms) all r HS6.out.wf HM2.out HAL.out).mono ?_
              rintro e w10 ⟨rfl, ⟨A1, c1, hm⟩, hk⟩
              refine ⟨_, rfl, ?_⟩
              have HNX := Aside0.mk (HV.out.next HLL.out HLT.out (.inl HA4.out) HS6.out HMY.out hm (HC2.out.kq hk) (HL2.out.trans hk.b))
              clear hm hk
              refine hK.out _ _ ?_
              clear hK K
              refine done_ (done_of HT_.out (by kernel_rfl)) ?_
              clear hHeld hHeld1 hHeld2
              have q2 := HNX.out.mka.c2
              have hal := HNX.out.alen
              have hat := HNX.out.at1
              generalize (if r = -1002 then all else all ++ [r]) = X at HNX q2 hal ⊢
              have d200 : decide (200 < (X.length : Int)) = false := by simp; omega
              clear hal hat
              go_wp2
              go_roundg gk1
              case measure => omega
              case rel => exact ⟨at4, ns ++ ms, X, A1, c1, HNX, ⟨by have h1 := HK.out; have h2 := HA4.out; have h3 := HLT.out; omega⟩⟩
          · as_aux_lemma =>
              obtain ⟨ms, r, h1, h2, h3⟩ := or_any HSX.out (by have := HN.out; omega) x1 x2
              have HBO := Aside0.mk (both_or HSX.out.wf (okI_valid HX1.out (by have := HN.out; omega)) (okI_valid HX2.out (by have := HN.out; omega)) h1)
              have HS6 := Aside0.mk h2
              have HMY := Aside0.mk h3
              clear h1 h2 h3
              go_upto_region 25 with fail
              have HM0 := Aside0.mk HM8.out.drew
              have HC0 : Aside0 (IsS71 w0 w8.drew C l at4) := ⟨HC8.out.drew⟩
              have HL0 : Aside0 (Below w0.heap.size w0 w8.drew) := ⟨HL8.out.drew⟩
              have HW8 : Aside0 (w8.drew.heap[b8]? = some (boxP x1)) := ⟨HY8.out⟩
              have HW9 : Aside0 (w8.drew.heap[b9]? = some (boxP x2)) := ⟨HY9.out⟩
              have HWa : Aside0 (w8.drew.heap[ba]? = some (boxP x3)) := ⟨HYa.out⟩
              refine start_ (n := 20) (S := fun w' => w'.cell? ⟨G, 0, none⟩ = some (.pointer (some ⟨S, 0, none⟩)) ∧ w'.cell? ⟨G, 1, none⟩ = some (.pointer (some ⟨S', 0, none⟩)) ∧ w'.cell? ⟨b8, 0, none⟩ = some (.int .i64 x1) ∧ w'.cell? ⟨b8, 1, none⟩ = some (.int .i64 x1) ∧ w'.cell? ⟨b9, 0, none⟩ = some (.int .i64 x2) ∧ w'.cell? ⟨b9, 1, none⟩ = some (.int .i64 x2)) (ds := [19]) #[false, false, false, false, false, false, false, false, false, false, false, false, false, false, false, false, false, false, false, false] (by kernel_rfl) rfl rfl ⟨HM0.out.c0, HM0.out.c1, (blk_cell HW8.out 0).trans rfl, (blk_cell HW8.out 1).trans rfl, (blk_cell HW9.out 0).trans rfl, (blk_cell HW9.out 1).trans rfl⟩ (fun hHeld => ?_)
              refine with_tabW made.tab25 made.bits25 (fun HT_ HW_ => ?_)
              refine pure_ (i := 0) (N := some 192) (v := ?_) (a' := ?_) #[true, false, false, false, false, false, false, false, false, false, false, false, false, false, false, false, false, false, false, false] rfl rfl (any_of HT_.out (by kernel_rfl)) (fun _ _ _ h => h) (Or.inl ⟨by rfl, ?_⟩) ?_ ?_
              rotate_left
              · intro w'
                go_simp
                with_reducible rfl
              rotate_left
              · simp only [Act.put, List.setIfInBounds_toArray, List.set_cons_zero, List.set_cons_succ, i64_w, i32_w]
                rfl
              refine pure_ (i := 1) (N := some 193) (v := ?_) (a' := ?_) #[true, true, false, false, false, false, false, false, false, false, false, false, false, false, false, false, false, false, false, false] rfl rfl (any_of HT_.out (by kernel_rfl)) (fun _ _ _ h => h) (Or.inl ⟨by rfl, ?_⟩) ?_ ?_
              rotate_left
              · intro w'
                go_simp
                with_reducible rfl
              rotate_left
              · simp only [Act.put, List.setIfInBounds_toArray, List.set_cons_zero, List.set_cons_succ, i64_w, i32_w]
                rfl
              refine pure_ (i := 2) (N := some 194) (v := ?_) (a' := ?_) #[true, true, true, false, false, false, false, false, false, false, false, false, false, false, false, false, false, false, false, false] rfl rfl (any_of HT_.out (by kernel_rfl)) (fun _ _ _ h => h) (Or.inl ⟨by rfl, ?_⟩) ?_ ?_
              rotate_left
              · intro w'
                go_simp
                with_reducible rfl
              rotate_left
              · simp only [Act.put, List.setIfInBounds_toArray, List.set_cons_zero, List.set_cons_succ, i64_w, i32_w]
                rfl
              refine pure_ (i := 3) (N := some 195) (v := ?_) (a' := ?_) #[true, true, true, true, false, false, false, false, false, false, false, false, false, false, false, false, false, false, false, false] rfl rfl (any_of HT_.out (by kernel_rfl)) (fun _ _ _ h => h) (Or.inl ⟨by rfl, ?_⟩) ?_ ?_
              rotate_left
              · intro w'
                go_simp
                with_reducible rfl
              rotate_left
              · simp only [Act.put, List.setIfInBounds_toArray, List.set_cons_zero, List.set_cons_succ, i64_w, i32_w]
                rfl
              refine take_ (i := 4) (N := some 196) (v := ?_) (a' := ?_) #[true, true, true, true, true, false, false, false, false, false, false, false, false, false, false, false, false, false, false, false] rfl rfl (take_ofW HT_.out HW_.out (by kernel_rfl)) (fun _ _ _ h => h) (Or.inl ⟨by rfl, ?_⟩) hHeld ?_ ?_
              rotate_left
              · rintro w' ⟨s0, s1, s2, s3, s4, s5⟩
                go_simp
                with_reducible rfl
              rotate_left
              · simp only [Act.put, List.setIfInBounds_toArray, List.set_cons_zero, List.set_cons_succ, i64_w, i32_w]
                rfl
              refine pure_ (i := 5) (N := some 197) (v := ?_) (a' := ?_) #[true, true, true, true, true, true, false, false, false, false, false, false, false, false, false, false, false, false, false, false] rfl rfl (any_of HT_.out (by kernel_rfl)) (fun _ _ _ h => h) (Or.inl ⟨by rfl, ?_⟩) ?_ ?_
              rotate_left
              · intro w'
                go_simp
                with_reducible rfl
              rotate_left
              · simp only [Act.put, List.setIfInBounds_toArray, List.set_cons_zero, List.set_cons_succ, i64_w, i32_w]
                rfl
              refine take_ (i := 6) (N := some 198) (v := ?_) (a' := ?_) #[true, true, true, true, true, true, true, false, false, false, false, false, false, false, false, false, false, false, false, false] rfl rfl (take_ofW HT_.out HW_.out (by kernel_rfl)) (fun _ _ _ h => h) (Or.inl ⟨by rfl, ?_⟩) hHeld ?_ ?_
              rotate_left
              · rintro w' ⟨s0, s1, s2, s3, s4, s5⟩
                go_simp
                with_reducible rfl
              rotate_left
              · simp only [Act.put, List.setIfInBounds_toArray, List.set_cons_zero, List.set_cons_succ, i64_w, i32_w]
                rfl
              refine pure_ (i := 7) (N := some 199) (v := ?_) (a' := ?_) #[true, true, true, true, true, true, true, true, false, false, false, false, false, false, false, false, false, false, false, false] rfl rfl (any_of HT_.out (by kernel_rfl)) (fun _ _ _ h => h) (Or.inl ⟨by rfl, ?_⟩) ?_ ?_
              rotate_left
              · intro w'
                go_simp
                with_reducible rfl
              rotate_left
              · simp only [Act.put, List.setIfInBounds_toArray, List.set_cons_zero, List.set_cons_succ, i64_w, i32_w]
                rfl
              refine take_ (i := 8) (N := some 200) (v := ?_) (a' := ?_) #[true, true, true, true, true, true, true, true, true, false, false, false, false, false, false, false, false, false, false, false] rfl rfl (take_ofW HT_.out HW_.out (by kernel_rfl)) (fun _ _ _ h => h) (Or.inl ⟨by rfl, ?_⟩) hHeld ?_ ?_
              rotate_left
              · rintro w' ⟨s0, s1, s2, s3, s4, s5⟩
                go_simp
                with_reducible rfl
              rotate_left
              · simp only [Act.put, List.setIfInBounds_toArray, List.set_cons_zero, List.set_cons_succ, i64_w, i32_w]
                rfl
              refine pure_ (i := 10) (N := some 202) (v := ?_) (a' := ?_) #[true, true, true, true, true, true, true, true, true, false, true, false, false, false, false, false, false, false, false, false] rfl rfl (any_of HT_.out (by kernel_rfl)) (fun _ _ _ h => h) (Or.inl ⟨by rfl, ?_⟩) ?_ ?_
              rotate_left
              · intro w'
                go_simp
                with_reducible rfl
              rotate_left
              · simp only [Act.put, List.setIfInBounds_toArray, List.set_cons_zero, List.set_cons_succ, i64_w, i32_w]
                rfl
              refine pure_ (i := 11) (N := some 203) (v := ?_) (a' := ?_) #[true, true, true, true, true, true, true, true, true, false, true, true, false, false, false, false, false, false, false, false] rfl rfl (any_of HT_.out (by kernel_rfl)) (fun _ _ _ h => h) (Or.inl ⟨by rfl, ?_⟩) ?_ ?_
              rotate_left
              · intro w'
                go_simp
                with_reducible rfl
              rotate_left
              · simp only [Act.put, List.setIfInBounds_toArray, List.set_cons_zero, List.set_cons_succ, i64_w, i32_w]
                rfl
              refine pure_ (i := 12) (N := some 204) (v := ?_) (a' := ?_) #[true, true, true, true, true, true, true, true, true, false, true, true, true, false, false, false, false, false, false, false] rfl rfl (any_of HT_.out (by kernel_rfl)) (fun _ _ _ h => h) (Or.inl ⟨by rfl, ?_⟩) ?_ ?_
              rotate_left
              · intro w'
                go_simp
                with_reducible rfl
              rotate_left
              · simp only [Act.put, List.setIfInBounds_toArray, List.set_cons_zero, List.set_cons_succ, i64_w, i32_w]
                rfl
              refine take_ (i := 13) (N := some 205) (v := ?_) (a' := ?_) #[true, true, true, true, true, true, true, true, true, false, true, true, true, true, false, false, false, false, false, false] rfl rfl (take_ofW HT_.out HW_.out (by kernel_rfl)) (fun _ _ _ h => h) (Or.inl ⟨by rfl, ?_⟩) hHeld ?_ ?_
              rotate_left
              · rintro w' ⟨s0, s1, s2, s3, s4, s5⟩
                go_simp
                with_reducible rfl
              rotate_left
              · simp only [Act.put, List.setIfInBounds_toArray, List.set_cons_zero, List.set_cons_succ, i64_w, i32_w]
                rfl
              refine pure_ (i := 14) (N := some 206) (v := ?_) (a' := ?_) #[true, true, true, true, true, true, true, true, true, false, true, true, true, true, true, false, false, false, false, false] rfl rfl (any_of HT_.out (by kernel_rfl)) (fun _ _ _ h => h) (Or.inl ⟨by rfl, ?_⟩) ?_ ?_
              rotate_left
              · intro w'
                go_simp
                with_reducible rfl
              rotate_left
              · simp only [Act.put, List.setIfInBounds_toArray, List.set_cons_zero, List.set_cons_succ, i64_w, i32_w]
                rfl
              refine take_ (i := 15) (N := some 207) (v := ?_) (a' := ?_) #[true, true, true, true, true, true, true, true, true, false, true, true, true, true, true, true, false, false, false, false] rfl rfl (take_ofW HT_.out HW_.out (by kernel_rfl)) (fun _ _ _ h => h) (Or.inl ⟨by rfl, ?_⟩) hHeld ?_ ?_
              rotate_left
              · rintro w' ⟨s0, s1, s2, s3, s4, s5⟩
                go_simp
                with_reducible rfl
              rotate_left
              · simp only [Act.put, List.setIfInBounds_toArray, List.set_cons_zero, List.set_cons_succ, i64_w, i32_w]
                rfl
              refine pure_ (i := 16) (N := some 208) (v := ?_) (a' := ?_) #[true, true, true, true, true, true, true, true, true, false, true, true, true, true, true, true, true, false, false, false] rfl rfl (any_of HT_.out (by kernel_rfl)) (fun _ _ _ h => h) (Or.inl ⟨by rfl, ?_⟩) ?_ ?_
              rotate_left
              · intro w'
                go_simp
                with_reducible rfl
              rotate_left
              · simp only [Act.put, List.setIfInBounds_toArray, List.set_cons_zero, List.set_cons_succ, i64_w, i32_w]
                rfl
              refine take_ (i := 17) (N := some 209) (v := ?_) (a' := ?_) #[true, true, true, true, true, true, true, true, true, false, true, true, true, true, true, true, true, true, false, false] rfl rfl (take_ofW HT_.out HW_.out (by kernel_rfl)) (fun _ _ _ h => h) (Or.inl ⟨by rfl, ?_⟩) hHeld ?_ ?_
              rotate_left
              · rintro w' ⟨s0, s1, s2, s3, s4, s5⟩
                go_simp
                with_reducible rfl
              rotate_left
              · simp only [Act.put, List.setIfInBounds_toArray, List.set_cons_zero, List.set_cons_succ, i64_w, i32_w]
                rfl
              refine one_ (i := 9) (N := some 201) #[true, true, true, true, true, true, true, true, true, true, true, true, true, true, true, true, true, true, false, false] rfl rfl (one_of HT_.out (by kernel_rfl)) (by decide) (fun K hK => ?_)
              refine goes_ Try.func30 (by kernel_rfl) rfl #[.pointer (some ⟨S, 0, none⟩), .int .i64 x1, .int .i64 x2] (by rfl) rfl rfl (by (try simp only [List.map_toArray, List.map_cons, List.map_nil]); first | done | rfl) ?_
              refine (HM0.out.two.callP (fun m v hS => HBO.out.1 S m v false _ hS)).mono ?_
              rintro e wc1 ⟨rfl, ht, hk⟩
              refine ⟨_, rfl, ?_⟩
              have HM1 := Aside0.mk (HM0.out.step hk ht)
              have HC1 := Aside0.mk (HC0.out.kq (hk.mono L71_3))
              have HL1 := Aside0.mk (HL0.out.trans hk.b)
              have HV18 : Aside0 (wc1.heap[b8]? = some (boxP x1)) := ⟨hk.box _ _ _ _ HW8.out (by unfold L3; decide)⟩
              have HV19 : Aside0 (wc1.heap[b9]? = some (boxP x2)) := ⟨hk.box _ _ _ _ HW9.out (by unfold L3; decide)⟩
              clear ht hk
              refine hK.out _ _ ⟨HM1.out.c0, HM1.out.c1, (blk_cell HV18.out 0).trans rfl, (blk_cell HV18.out 1).trans rfl, (blk_cell HV19.out 0).trans rfl, (blk_cell HV19.out 1).trans rfl⟩ (fun hHeld1 => ?_)
              clear hK K
              refine norm_ (a' := ?_) ?_ ?_
              rotate_left
              · show Act.put _ (some 201) _ = _
                simp only [Act.put, List.setIfInBounds_toArray, List.set_cons_zero, List.set_cons_succ, i64_w, i32_w]
                rfl
              refine one_ (i := 18) (N := some 210) #[true, true, true, true, true, true, true, true, true, true, true, true, true, true, true, true, true, true, true, false] rfl rfl (one_of HT_.out (by kernel_rfl)) (by decide) (fun K hK => ?_)
              refine goes_ Try.func31 (by kernel_rfl) rfl #[.pointer (some ⟨S', 0, none⟩), .int .i64 x1, .int .i64 x2] (by rfl) rfl rfl (by (try simp only [List.map_toArray, List.map_cons, List.map_nil]); first | done | rfl) ?_
              refine (HM1.out.two.callR (fun m v hS => HBO.out.2 S' m v false _ hS)).mono ?_
              rintro e wc2 ⟨rfl, ht, hk⟩
              refine ⟨_, rfl, ?_⟩
              have HM2 := Aside0.mk (HM1.out.step hk ht)
              have HC2 := Aside0.mk (HC1.out.kq (hk.mono L71_3))
              have HL2 := Aside0.mk (HL1.out.trans hk.b)
              have HV28 : Aside0 (wc2.heap[b8]? = some (boxP x1)) := ⟨hk.box _ _ _ _ HV18.out (by unfold L3; decide)⟩
              have HV29 : Aside0 (wc2.heap[b9]? = some (boxP x2)) := ⟨hk.box _ _ _ _ HV19.out (by unfold L3; decide)⟩
              clear ht hk
              refine hK.out _ _ ⟨HM2.out.c0, HM2.out.c1, (blk_cell HV28.out 0).trans rfl, (blk_cell HV28.out 1).trans rfl, (blk_cell HV29.out 0).trans rfl, (blk_cell HV29.out 1).trans rfl⟩ (fun hHeld2 => ?_)
              clear hK K
              refine norm_ (a' := ?_) ?_ ?_
              rotate_left
              · show Act.put _ (some 210) _ = _
                simp only [Act.put, List.setIfInBounds_toArray, List.set_cons_zero, List.set_cons_succ, i64_w, i32_w]
                rfl
              refine last_ (i := 19) (N := some 211) #[true, true, true, true, true, true, true, true, true, true, true, true, true, true, true, true, true, true, true, true] rfl rfl (one_of HT_.out (by kernel_rfl)) (by decide) (fun K hK => ?_)
              refine goes_ Try.func35 (by kernel_rfl) rfl #[.pointer (some ⟨G, 0, none⟩), .int .i64 r, .int .i64 r] (by rfl) rfl rfl (by (try simp only [List.map_toArray, List.map_cons, List.map_nil]); first | done | rfl) ?_
              refine (add_calls w0.heap.size wc2 G S S' (some ad) c (ns ++ ms) all r HS6.out.wf HM2.out HAL.out).mono ?_
              rintro e w10 ⟨rfl, ⟨A1, c1, hm⟩, hk⟩
              refine ⟨_, rfl, ?_⟩
              have HNX := Aside0.mk (HV.out.next HLL.out HLT.out (.inl HA4.out) HS6.out HMY.out hm (HC2.out.kq hk) (HL2.out.trans hk.b))
              clear hm hk
              refine hK.out _ _ ?_
              clear hK K
              refine done_ (done_of HT_.out (by kernel_rfl)) ?_
              clear hHeld hHeld1 hHeld2
              have q2 := HNX.out.mka.c2
              have hal := HNX.out.alen
              have hat := HNX.out.at1
              generalize (if r = -1002 then all else all ++ [r]) = X at HNX q2 hal ⊢
              have d200 : decide (200 < (X.length : Int)) = false := by simp; omega
              clear hal hat
              go_wp2
              go_roundg gk1
              case measure => omega
              case rel => exact ⟨at4, ns ++ ms, X, A1, c1, HNX, ⟨by have h1 := HK.out; have h2 := HA4.out; have h3 := HLT.out; omega⟩⟩
          · as_aux_lemma =>
              obtain ⟨ms, r, h1, h2, h3⟩ := ch_any HSX.out (by have := HN.out; omega) x1 (-1) (-2)
              have HBO := Aside0.mk (both_not HSX.out.wf (okI_valid HX1.out (by have := HN.out; omega)) h1)
              have HS6 := Aside0.mk h2
              have HMY := Aside0.mk h3
              clear h1 h2 h3
              go_upto_region 27 with fail
              have HM0 := Aside0.mk HM8.out.drew
              have HC0 : Aside0 (IsS71 w0 w8.drew C l at4) := ⟨HC8.out.drew⟩
              have HL0 : Aside0 (Below w0.heap.size w0 w8.drew) := ⟨HL8.out.drew⟩
              have HW8 : Aside0 (w8.drew.heap[b8]? = some (boxP x1)) := ⟨HY8.out⟩
              have HW9 : Aside0 (w8.drew.heap[b9]? = some (boxP x2)) := ⟨HY9.out⟩
              have HWa : Aside0 (w8.drew.heap[ba]? = some (boxP x3)) := ⟨HYa.out⟩
              refine start_ (n := 16) (S := fun w' => w'.cell? ⟨G, 0, none⟩ = some (.pointer (some ⟨S, 0, none⟩)) ∧ w'.cell? ⟨G, 1, none⟩ = some (.pointer (some ⟨S', 0, none⟩)) ∧ w'.cell? ⟨b8, 0, none⟩ = some (.int .i64 x1) ∧ w'.cell? ⟨b8, 1, none⟩ = some (.int .i64 x1)) (ds := [15]) #[false, false, false, false, false, false, false, false, false, false, false, false, false, false, false, false] (by kernel_rfl) rfl rfl ⟨HM0.out.c0, HM0.out.c1, (blk_cell HW8.out 0).trans rfl, (blk_cell HW8.out 1).trans rfl⟩ (fun hHeld => ?_)
              refine with_tabW made.tab27 made.bits27 (fun HT_ HW_ => ?_)
              refine pure_ (i := 0) (N := some 214) (v := ?_) (a' := ?_) #[true, false, false, false, false, false, false, false, false, false, false, false, false, false, false, false] rfl rfl (any_of HT_.out (by kernel_rfl)) (fun _ _ _ h => h) (Or.inl ⟨by rfl, ?_⟩) ?_ ?_
              rotate_left
              · intro w'
                go_simp
                with_reducible rfl
              rotate_left
              · simp only [Act.put, List.setIfInBounds_toArray, List.set_cons_zero, List.set_cons_succ, i64_w, i32_w]
                rfl
              refine pure_ (i := 1) (N := some 215) (v := ?_) (a' := ?_) #[true, true, false, false, false, false, false, false, false, false, false, false, false, false, false, false] rfl rfl (any_of HT_.out (by kernel_rfl)) (fun _ _ _ h => h) (Or.inl ⟨by rfl, ?_⟩) ?_ ?_
              rotate_left
              · intro w'
                go_simp
                with_reducible rfl
              rotate_left
              · simp only [Act.put, List.setIfInBounds_toArray, List.set_cons_zero, List.set_cons_succ, i64_w, i32_w]
                rfl
              refine pure_ (i := 2) (N := some 216) (v := ?_) (a' := ?_) #[true, true, true, false, false, false, false, false, false, false, false, false, false, false, false, false] rfl rfl (any_of HT_.out (by kernel_rfl)) (fun _ _ _ h => h) (Or.inl ⟨by rfl, ?_⟩) ?_ ?_
              rotate_left
              · intro w'
                go_simp
                with_reducible rfl
              rotate_left
              · simp only [Act.put, List.setIfInBounds_toArray, List.set_cons_zero, List.set_cons_succ, i64_w, i32_w]
                rfl
              refine pure_ (i := 3) (N := some 217) (v := ?_) (a' := ?_) #[true, true, true, true, false, false, false, false, false, false, false, false, false, false, false, false] rfl rfl (any_of HT_.out (by kernel_rfl)) (fun _ _ _ h => h) (Or.inl ⟨by rfl, ?_⟩) ?_ ?_
              rotate_left
              · intro w'
                go_simp
                with_reducible rfl
              rotate_left
              · simp only [Act.put, List.setIfInBounds_toArray, List.set_cons_zero, List.set_cons_succ, i64_w, i32_w]
                rfl
              refine take_ (i := 4) (N := some 218) (v := ?_) (a' := ?_) #[true, true, true, true, true, false, false, false, false, false, false, false, false, false, false, false] rfl rfl (take_ofW HT_.out HW_.out (by kernel_rfl)) (fun _ _ _ h => h) (Or.inl ⟨by rfl, ?_⟩) hHeld ?_ ?_
              rotate_left
              · rintro w' ⟨s0, s1, s2, s3⟩
                go_simp
                with_reducible rfl
              rotate_left
              · simp only [Act.put, List.setIfInBounds_toArray, List.set_cons_zero, List.set_cons_succ, i64_w, i32_w]
                rfl
              refine pure_ (i := 5) (N := some 219) (v := ?_) (a' := ?_) #[true, true, true, true, true, true, false, false, false, false, false, false, false, false, false, false] rfl rfl (any_of HT_.out (by kernel_rfl)) (fun _ _ _ h => h) (Or.inl ⟨by rfl, ?_⟩) ?_ ?_
              rotate_left
              · intro w'
                go_simp
                with_reducible rfl
              rotate_left
              · simp only [Act.put, List.setIfInBounds_toArray, List.set_cons_zero, List.set_cons_succ, i64_w, i32_w]
                rfl
              refine take_ (i := 6) (N := some 220) (v := ?_) (a' := ?_) #[true, true, true, true, true, true, true, false, false, false, false, false, false, false, false, false] rfl rfl (take_ofW HT_.out HW_.out (by kernel_rfl)) (fun _ _ _ h => h) (Or.inl ⟨by rfl, ?_⟩) hHeld ?_ ?_
              rotate_left
              · rintro w' ⟨s0, s1, s2, s3⟩
                go_simp
                with_reducible rfl
              rotate_left
              · simp only [Act.put, List.setIfInBounds_toArray, List.set_cons_zero, List.set_cons_succ, i64_w, i32_w]
                rfl
              refine pure_ (i := 8) (N := some 222) (v := ?_) (a' := ?_) #[true, true, true, true, true, true, true, false, true, false, false, false, false, false, false, false] rfl rfl (any_of HT_.out (by kernel_rfl)) (fun _ _ _ h => h) (Or.inl ⟨by rfl, ?_⟩) ?_ ?_
              rotate_left
              · intro w'
                go_simp
                with_reducible rfl
              rotate_left
              · simp only [Act.put, List.setIfInBounds_toArray, List.set_cons_zero, List.set_cons_succ, i64_w, i32_w]
                rfl
              refine pure_ (i := 9) (N := some 223) (v := ?_) (a' := ?_) #[true, true, true, true, true, true, true, false, true, true, false, false, false, false, false, false] rfl rfl (any_of HT_.out (by kernel_rfl)) (fun _ _ _ h => h) (Or.inl ⟨by rfl, ?_⟩) ?_ ?_
              rotate_left
              · intro w'
                go_simp
                with_reducible rfl
              rotate_left
              · simp only [Act.put, List.setIfInBounds_toArray, List.set_cons_zero, List.set_cons_succ, i64_w, i32_w]
                rfl
              refine pure_ (i := 10) (N := some 224) (v := ?_) (a' := ?_) #[true, true, true, true, true, true, true, false, true, true, true, false, false, false, false, false] rfl rfl (any_of HT_.out (by kernel_rfl)) (fun _ _ _ h => h) (Or.inl ⟨by rfl, ?_⟩) ?_ ?_
              rotate_left
              · intro w'
                go_simp
                with_reducible rfl
              rotate_left
              · simp only [Act.put, List.setIfInBounds_toArray, List.set_cons_zero, List.set_cons_succ, i64_w, i32_w]
                rfl
              refine take_ (i := 11) (N := some 225) (v := ?_) (a' := ?_) #[true, true, true, true, true, true, true, false, true, true, true, true, false, false, false, false] rfl rfl (take_ofW HT_.out HW_.out (by kernel_rfl)) (fun _ _ _ h => h) (Or.inl ⟨by rfl, ?_⟩) hHeld ?_ ?_
              rotate_left
              · rintro w' ⟨s0, s1, s2, s3⟩
                go_simp
                with_reducible rfl
              rotate_left
              · simp only [Act.put, List.setIfInBounds_toArray, List.set_cons_zero, List.set_cons_succ, i64_w, i32_w]
                rfl
              refine pure_ (i := 12) (N := some 226) (v := ?_) (a' := ?_) #[true, true, true, true, true, true, true, false, true, true, true, true, true, false, false, false] rfl rfl (any_of HT_.out (by kernel_rfl)) (fun _ _ _ h => h) (Or.inl ⟨by rfl, ?_⟩) ?_ ?_
              rotate_left
              · intro w'
                go_simp
                with_reducible rfl
              rotate_left
              · simp only [Act.put, List.setIfInBounds_toArray, List.set_cons_zero, List.set_cons_succ, i64_w, i32_w]
                rfl
              refine take_ (i := 13) (N := some 227) (v := ?_) (a' := ?_) #[true, true, true, true, true, true, true, false, true, true, true, true, true, true, false, false] rfl rfl (take_ofW HT_.out HW_.out (by kernel_rfl)) (fun _ _ _ h => h) (Or.inl ⟨by rfl, ?_⟩) hHeld ?_ ?_
              rotate_left
              · rintro w' ⟨s0, s1, s2, s3⟩
                go_simp
                with_reducible rfl
              rotate_left
              · simp only [Act.put, List.setIfInBounds_toArray, List.set_cons_zero, List.set_cons_succ, i64_w, i32_w]
                rfl
              refine one_ (i := 7) (N := some 221) #[true, true, true, true, true, true, true, true, true, true, true, true, true, true, false, false] rfl rfl (one_of HT_.out (by kernel_rfl)) (by decide) (fun K hK => ?_)
              refine goes_ Try.func20 (by kernel_rfl) rfl #[.pointer (some ⟨S, 0, none⟩), .int .i64 x1] (by rfl) rfl rfl (by (try simp only [List.map_toArray, List.map_cons, List.map_nil]); first | done | rfl) ?_
              refine (HM0.out.two.callP (fun m v hS => HBO.out.1 S m v false _ hS)).mono ?_
              rintro e wc1 ⟨rfl, ht, hk⟩
              refine ⟨_, rfl, ?_⟩
              have HM1 := Aside0.mk (HM0.out.step hk ht)
              have HC1 := Aside0.mk (HC0.out.kq (hk.mono L71_3))
              have HL1 := Aside0.mk (HL0.out.trans hk.b)
              have HV18 : Aside0 (wc1.heap[b8]? = some (boxP x1)) := ⟨hk.box _ _ _ _ HW8.out (by unfold L3; decide)⟩
              clear ht hk
              refine hK.out _ _ ⟨HM1.out.c0, HM1.out.c1, (blk_cell HV18.out 0).trans rfl, (blk_cell HV18.out 1).trans rfl⟩ (fun hHeld1 => ?_)
              clear hK K
              refine norm_ (a' := ?_) ?_ ?_
              rotate_left
              · show Act.put _ (some 221) _ = _
                simp only [Act.put, List.setIfInBounds_toArray, List.set_cons_zero, List.set_cons_succ, i64_w, i32_w]
                rfl
              refine one_ (i := 14) (N := some 228) #[true, true, true, true, true, true, true, true, true, true, true, true, true, true, true, false] rfl rfl (one_of HT_.out (by kernel_rfl)) (by decide) (fun K hK => ?_)
              refine goes_ Try.func28 (by kernel_rfl) rfl #[.pointer (some ⟨S', 0, none⟩), .int .i64 x1] (by rfl) rfl rfl (by (try simp only [List.map_toArray, List.map_cons, List.map_nil]); first | done | rfl) ?_
              refine (HM1.out.two.callR (fun m v hS => HBO.out.2 S' m v false _ hS)).mono ?_
              rintro e wc2 ⟨rfl, ht, hk⟩
              refine ⟨_, rfl, ?_⟩
              have HM2 := Aside0.mk (HM1.out.step hk ht)
              have HC2 := Aside0.mk (HC1.out.kq (hk.mono L71_3))
              have HL2 := Aside0.mk (HL1.out.trans hk.b)
              have HV28 : Aside0 (wc2.heap[b8]? = some (boxP x1)) := ⟨hk.box _ _ _ _ HV18.out (by unfold L3; decide)⟩
              clear ht hk
              refine hK.out _ _ ⟨HM2.out.c0, HM2.out.c1, (blk_cell HV28.out 0).trans rfl, (blk_cell HV28.out 1).trans rfl⟩ (fun hHeld2 => ?_)
              clear hK K
              refine norm_ (a' := ?_) ?_ ?_
              rotate_left
              · show Act.put _ (some 228) _ = _
                simp only [Act.put, List.setIfInBounds_toArray, List.set_cons_zero, List.set_cons_succ, i64_w, i32_w]
                rfl
              refine last_ (i := 15) (N := some 229) #[true, true, true, true, true, true, true, true, true, true, true, true, true, true, true, true] rfl rfl (one_of HT_.out (by kernel_rfl)) (by decide) (fun K hK => ?_)
              refine goes_ Try.func35 (by kernel_rfl) rfl #[.pointer (some ⟨G, 0, none⟩), .int .i64 r, .int .i64 r] (by rfl) rfl rfl (by (try simp only [List.map_toArray, List.map_cons, List.map_nil]); first | done | rfl) ?_
              refine (add_calls w0.heap.size wc2 G S S' (some ad) c (ns ++ ms) all r HS6.out.wf HM2.out HAL.out).mono ?_
              rintro e w10 ⟨rfl, ⟨A1, c1, hm⟩, hk⟩
              refine ⟨_, rfl, ?_⟩
              have HNX := Aside0.mk (HV.out.next HLL.out HLT.out (.inl HA4.out) HS6.out HMY.out hm (HC2.out.kq hk) (HL2.out.trans hk.b))
              clear hm hk
              refine hK.out _ _ ?_
              clear hK K
              refine done_ (done_of HT_.out (by kernel_rfl)) ?_
              clear hHeld hHeld1 hHeld2
              have q2 := HNX.out.mka.c2
              have hal := HNX.out.alen
              have hat := HNX.out.at1
              generalize (if r = -1002 then all else all ++ [r]) = X at HNX q2 hal ⊢
              have d200 : decide (200 < (X.length : Int)) = false := by simp; omega
              clear hal hat
              go_wp2
              go_roundg gk1
              case measure => omega
              case rel => exact ⟨at4, ns ++ ms, X, A1, c1, HNX, ⟨by have h1 := HK.out; have h2 := HA4.out; have h3 := HLT.out; omega⟩⟩
        · have dl : decide (at_ < (l.length : Int)) = false := by simpa using hlt
          clear hlt
          go_wp2_with (go_at_call 36; refine (flagstonedraw_Codes_Left.calls C l at_ (decide (at_ < (l.length : Int))) at_ w0 wo HV.out.cod HV.out.low rfl).mono ?_; rw [dl]; rintro e w5 ⟨rfl, hi, hb, hk⟩; have HM5 := Aside0.mk (HV.out.mka.codes HV.out.cod hk (below_between HV.out.low hb hk.1)); have HL5 := Aside0.mk hb; clear hi hb hk)
          go_ret
          exact ⟨G, S, S', A, c, ns, all, rfl, HM5.out, HV.out.six, HV.out.allv, HV.out.leaf, by have := HV.out.alen; have := HV.out.at1; omega, HL5.out⟩
end Go.Proofs.Ytihikenmknphkaa.Q
