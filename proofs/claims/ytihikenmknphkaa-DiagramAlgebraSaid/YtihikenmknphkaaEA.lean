/-
  Diagrams: the walks of Node where it is not refused. No condition beyond those that stand in each. (Written by wip/tools/gen_node.py.)
  Diagrams: the walks of Node where a node is added. No condition beyond those that stand in each. (Written by wip/tools/gen_node.py.)
-/
import Derived.Test.YtihikenmknphkaaDA
namespace Go.Proofs.Ytihikenmknphkaa.Q
open Go Go.RowKit Go.Maps Go.Proofs.YtihikenmknphkaaW.PrintWords Go.Proofs.YtihikenmknphkaaW.PrintLast Go.Proofs.YtihikenmknphkaaW.PrintMore Go.Proofs.Ytihikenmknphkaa.M
set_option linter.unusedVariables false
set_option linter.unusedSimpArgs false
set_option maxRecDepth 100000 in
set_option maxHeartbeats 4000000 in
theorem nodeP_same (S m : Nat) (v : Value) (ns : List N39) (full : Bool) (t y n : Int) (w : World) (hS : StAt 58 w S m v ns full) (hr : refuses ns t y n = false) (hne : y = n) :
    Calls Try.prog 18 #[.pointer (some ⟨S, 0, none⟩), .int .i64 t, .int .i64 y, .int .i64 n] w (NodeEnd 58 w S m v ns full y) := by
  have HS := Aside0.mk hS
  have HOK := NodeOk.of hr
  have HNK := Aside0.mk (valid_okN HOK hS.len)
  have d1 : decide (t < 0) = false := by have := HOK.t0; simp; omega
  have d2 : decide (1000 < t) = false := by have := HOK.t1; simp; omega
  have HY := Aside0.mk HOK.vy
  have HN := Aside0.mk HOK.vn
  have HYL := Aside0.mk (valid_lt HOK.vy).2
  have HNL := Aside0.mk (valid_lt HOK.vn).2
  have d5 : decide (topN ns y ≤ t) = false := by have := HOK.ty; simp; omega
  have d6 : decide (topN ns n ≤ t) = false := by have := HOK.tn; simp; omega
  have k5 := topP_calls S m v ns full y w HS.out HYL.out
  have k6 := topP_calls S m v ns full n w HS.out HNL.out
  obtain ⟨A, c, ev⟩ := Kd.R_slice hS.row
  subst ev
  have hln := hS.len
  generalize topN ns y = ty at d5 k5
  generalize topN ns n = tn at d6 k6
  have d7 : (y == n) = true := by simpa using hne
  clear hS hr hne HOK
  go_enter Try.func18, Try.ntmps18
  go_wp2_with (first | (go_at_call 44; refine (validP_calls S m _ ns full _ _ HS.out).mono ?_; rintro e w' ⟨rfl, rfl⟩; first | rw [HY.out] | rw [HN.out]) | (go_at_call 45; (with_reducible refine k5.mono ?_); rintro e w' ⟨rfl, rfl⟩) | (go_at_call 45; (with_reducible refine k6.mono ?_); rintro e w' ⟨rfl, rfl⟩))
  go_ret
  exact ⟨rfl, _, HS.out, Fr.refl _ _, .inl rfl⟩
set_option maxRecDepth 100000 in
set_option maxHeartbeats 4000000 in
theorem nodeP_has (S m : Nat) (v : Value) (ns : List N39) (full : Bool) (t y n : Int) (w : World) (hS : StAt 58 w S m v ns full) (hr : refuses ns t y n = false) (hne : ¬ y = n) (i : Nat) (hf : findN ns ⟨t, y, n⟩ = some i) :
    Calls Try.prog 18 #[.pointer (some ⟨S, 0, none⟩), .int .i64 t, .int .i64 y, .int .i64 n] w (NodeEnd 58 w S m v ns full (i : Int)) := by
  have HS := Aside0.mk hS
  have HOK := NodeOk.of hr
  have HNK := Aside0.mk (valid_okN HOK hS.len)
  have d1 : decide (t < 0) = false := by have := HOK.t0; simp; omega
  have d2 : decide (1000 < t) = false := by have := HOK.t1; simp; omega
  have HY := Aside0.mk HOK.vy
  have HN := Aside0.mk HOK.vn
  have HYL := Aside0.mk (valid_lt HOK.vy).2
  have HNL := Aside0.mk (valid_lt HOK.vn).2
  have d5 : decide (topN ns y ≤ t) = false := by have := HOK.ty; simp; omega
  have d6 : decide (topN ns n ≤ t) = false := by have := HOK.tn; simp; omega
  have k5 := topP_calls S m v ns full y w HS.out HYL.out
  have k6 := topP_calls S m v ns full n w HS.out HNL.out
  obtain ⟨A, c, ev⟩ := Kd.R_slice hS.row
  subst ev
  have hln := hS.len
  generalize topN ns y = ty at d5 k5
  generalize topN ns n = tn at d6 k6
  have d7 : (y == n) = false := by simpa using hne
  have HIV : Aside0 (idsF ns (kl3 t y n) = some (.int .i64 (i : Int))) := ⟨by have := idsF_key (ns := ns) HNK.out; rw [hf] at this; exact this⟩
  clear hS hr hne hf HOK
  go_enter Try.func18, Try.ntmps18
  go_wp2_with (first | (go_at_call 44; refine (validP_calls S m _ ns full _ _ HS.out).mono ?_; rintro e w' ⟨rfl, rfl⟩; first | rw [HY.out] | rw [HN.out]) | (go_at_call 45; (with_reducible refine k5.mono ?_); rintro e w' ⟨rfl, rfl⟩) | (go_at_call 45; (with_reducible refine k6.mono ?_); rintro e w' ⟨rfl, rfl⟩))
  have HBX := Aside0.mk (blk_new w (.cells #[.int .i64 t, .int .i64 y, .int .i64 n] 39))
  have HFa : Aside0 (Fr w (w.alloc (.cells #[.int .i64 t, .int .i64 y, .int .i64 n] 39)) (ownS S m (.slice A ns.length c))) := ⟨(Fr.refl _ _).alloc _⟩
  have HSa : Aside0 (StAt 58 (w.alloc (.cells #[.int .i64 t, .int .i64 y, .int .i64 n] 39)) S m (.slice A ns.length c) ns full) := ⟨HS.out.kept ((Fr.refl w (fun _ => False)).alloc _) (fun _ _ h => h)⟩
  have HLT : Aside0 (∀ k, ownS S m (.slice A ns.length c) k → k < w.heap.size) := ⟨fun k hk => HS.out.lt hk⟩
  generalize w.alloc (.cells #[.int .i64 t, .int .i64 y, .int .i64 n] 39) = wa at HBX HFa HSa ⊢
  have qb0 : wa.cell? ⟨w.heap.size, 0, none⟩ = some (.int .i64 t) := (blk_cell HBX.out 0).trans rfl
  have qb1 : wa.cell? ⟨w.heap.size, 1, none⟩ = some (.int .i64 y) := (blk_cell HBX.out 1).trans rfl
  have qb2 : wa.cell? ⟨w.heap.size, 2, none⟩ = some (.int .i64 n) := (blk_cell HBX.out 2).trans rfl
  refine start_ (n := 11) (S := fun w' => w'.cell? ⟨w.heap.size, 0, none⟩ = some (.int .i64 t) ∧ w'.cell? ⟨w.heap.size, 1, none⟩ = some (.int .i64 y) ∧ w'.cell? ⟨w.heap.size, 2, none⟩ = some (.int .i64 n) ∧ w'.cell? ⟨S, 1, none⟩ = some (.map (some m)) ∧ MapIs Try.prog 39 w' m ns.length (idsF ns)) (ds := []) #[false, false, false, false, false, false, false, false, false, false, false] (by kernel_rfl) rfl rfl ⟨qb0, qb1, qb2, HSa.out.cell1, HSa.out.ids⟩ (fun hHeld => ?_)
  refine pure_ (i := 0) (N := some 53) (v := ?_) (a' := ?_) #[true, false, false, false, false, false, false, false, false, false, false] rfl rfl (by kernel_rfl) (fun _ _ _ h => h) (Or.inl ⟨by rfl, ?_⟩) ?_ ?_
  rotate_left
  · intro w'
    go_simp
    with_reducible rfl
  rotate_left
  · simp only [Act.put, List.setIfInBounds_toArray, List.set_cons_zero, List.set_cons_succ, i64_w, i32_w]
    rfl
  refine pure_ (i := 1) (N := some 54) (v := ?_) (a' := ?_) #[true, true, false, false, false, false, false, false, false, false, false] rfl rfl (by kernel_rfl) (fun _ _ _ h => h) (Or.inl ⟨by rfl, ?_⟩) ?_ ?_
  rotate_left
  · intro w'
    go_simp
    with_reducible rfl
  rotate_left
  · simp only [Act.put, List.setIfInBounds_toArray, List.set_cons_zero, List.set_cons_succ, i64_w, i32_w]
    rfl
  refine pure_ (i := 2) (N := some 55) (v := ?_) (a' := ?_) #[true, true, true, false, false, false, false, false, false, false, false] rfl rfl (by kernel_rfl) (fun _ _ _ h => h) (Or.inl ⟨by rfl, ?_⟩) ?_ ?_
  rotate_left
  · intro w'
    go_simp
    with_reducible rfl
  rotate_left
  · simp only [Act.put, List.setIfInBounds_toArray, List.set_cons_zero, List.set_cons_succ, i64_w, i32_w]
    rfl
  refine take_ (i := 3) (N := some 56) (v := ?_) (a' := ?_) #[true, true, true, true, false, false, false, false, false, false, false] rfl rfl (by kernel_rfl) (fun _ _ _ h => h) (Or.inl ⟨by rfl, ?_⟩) hHeld ?_ ?_
  rotate_left
  · rintro w' ⟨s0, s1, s2, s3, s4⟩
    go_simp
    with_reducible rfl
  rotate_left
  · simp only [Act.put, List.setIfInBounds_toArray, List.set_cons_zero, List.set_cons_succ, i64_w, i32_w]
    rfl
  refine take_ (i := 4) (N := some 57) (v := ?_) (a' := ?_) #[true, true, true, true, true, false, false, false, false, false, false] rfl rfl (by kernel_rfl) (fun _ _ _ h => h) (Or.inl ⟨by rfl, ?_⟩) hHeld ?_ ?_
  rotate_left
  · rintro w' ⟨s0, s1, s2, s3, s4⟩
    go_simp
    with_reducible rfl
  rotate_left
  · simp only [Act.put, List.setIfInBounds_toArray, List.set_cons_zero, List.set_cons_succ, i64_w, i32_w]
    rfl
  refine take_ (i := 5) (N := some 58) (v := ?_) (a' := ?_) #[true, true, true, true, true, true, false, false, false, false, false] rfl rfl (by kernel_rfl) (fun _ _ _ h => h) (Or.inl ⟨by rfl, ?_⟩) hHeld ?_ ?_
  rotate_left
  · rintro w' ⟨s0, s1, s2, s3, s4⟩
    have hlk := MapIs.look s4 true K39 Try.underlying56 (zero3 w') (key39 HNK.out.ok.1 HNK.out.ok.2.1 HNK.out.ok.2.2)
    rw [HIV.out] at hlk
    simp only [if_true, Option.getD_some, Option.isSome_some] at hlk
    go_simp
    with_reducible rfl
  rotate_left
  · simp only [Act.put, List.setIfInBounds_toArray, List.set_cons_zero, List.set_cons_succ, i64_w, i32_w]
    rfl
  refine pure_ (i := 6) (N := some 52) (v := ?_) (a' := ?_) #[true, true, true, true, true, true, true, false, false, false, false] rfl rfl (by kernel_rfl) (fun _ _ _ h => h) (Or.inl ⟨by rfl, ?_⟩) ?_ ?_
  rotate_left
  · intro w'
    go_simp
    with_reducible rfl
  rotate_left
  · simp only [Act.put, List.setIfInBounds_toArray, List.set_cons_zero, List.set_cons_succ, i64_w, i32_w]
    rfl
  refine pure_ (i := 7) (N := some 59) (v := ?_) (a' := ?_) #[true, true, true, true, true, true, true, true, false, false, false] rfl rfl (by kernel_rfl) (fun _ _ _ h => h) (Or.inl ⟨by rfl, ?_⟩) ?_ ?_
  rotate_left
  · intro w'
    go_simp
    with_reducible rfl
  rotate_left
  · simp only [Act.put, List.setIfInBounds_toArray, List.set_cons_zero, List.set_cons_succ, i64_w, i32_w]
    rfl
  refine pure_ (i := 8) (N := some 60) (v := ?_) (a' := ?_) #[true, true, true, true, true, true, true, true, true, false, false] rfl rfl (by kernel_rfl) (fun _ _ _ h => h) (Or.inl ⟨by rfl, ?_⟩) ?_ ?_
  rotate_left
  · intro w'
    go_simp
    with_reducible rfl
  rotate_left
  · simp only [Act.put, List.setIfInBounds_toArray, List.set_cons_zero, List.set_cons_succ, i64_w, i32_w]
    rfl
  refine pure_ (i := 9) (N := some 10) (v := ?_) (a' := ?_) #[true, true, true, true, true, true, true, true, true, true, false] rfl rfl (by kernel_rfl) (fun _ _ _ h => h) (Or.inl ⟨by rfl, ?_⟩) ?_ ?_
  rotate_left
  · intro w'
    go_simp
    with_reducible rfl
  rotate_left
  · simp only [Act.put, List.setIfInBounds_toArray, List.set_cons_zero, List.set_cons_succ, i64_w, i32_w]
    rfl
  refine pure_ (i := 10) (N := some 11) (v := ?_) (a' := ?_) #[true, true, true, true, true, true, true, true, true, true, true] rfl rfl (by kernel_rfl) (fun _ _ _ h => h) (Or.inl ⟨by rfl, ?_⟩) ?_ ?_
  rotate_left
  · intro w'
    go_simp
    with_reducible rfl
  rotate_left
  · simp only [Act.put, List.setIfInBounds_toArray, List.set_cons_zero, List.set_cons_succ, i64_w, i32_w]
    rfl
  refine done_ (by kernel_rfl) ?_
  go_wp2
  go_ret
  exact ⟨rfl, _, HSa.out.kept ((Fr.refl wa (fun _ => False)).drew) (fun _ _ h => h), HFa.out.drew, .inl rfl⟩
set_option maxRecDepth 100000 in
set_option maxHeartbeats 4000000 in
theorem nodeP_full (S m : Nat) (v : Value) (ns : List N39) (full : Bool) (t y n : Int) (w : World) (hS : StAt 58 w S m v ns full) (hr : refuses ns t y n = false) (hne : ¬ y = n) (hf : findN ns ⟨t, y, n⟩ = none) (hl : 4000 ≤ ns.length) :
    Calls Try.prog 18 #[.pointer (some ⟨S, 0, none⟩), .int .i64 t, .int .i64 y, .int .i64 n] w (NodeEnd 58 w S m v ns true (-1002)) := by
  have HS := Aside0.mk hS
  have HOK := NodeOk.of hr
  have HNK := Aside0.mk (valid_okN HOK hS.len)
  have d1 : decide (t < 0) = false := by have := HOK.t0; simp; omega
  have d2 : decide (1000 < t) = false := by have := HOK.t1; simp; omega
  have HY := Aside0.mk HOK.vy
  have HN := Aside0.mk HOK.vn
  have HYL := Aside0.mk (valid_lt HOK.vy).2
  have HNL := Aside0.mk (valid_lt HOK.vn).2
  have d5 : decide (topN ns y ≤ t) = false := by have := HOK.ty; simp; omega
  have d6 : decide (topN ns n ≤ t) = false := by have := HOK.tn; simp; omega
  have k5 := topP_calls S m v ns full y w HS.out HYL.out
  have k6 := topP_calls S m v ns full n w HS.out HNL.out
  obtain ⟨A, c, ev⟩ := Kd.R_slice hS.row
  subst ev
  have hln := hS.len
  generalize topN ns y = ty at d5 k5
  generalize topN ns n = tn at d6 k6
  have d7 : (y == n) = false := by simpa using hne
  have HIV : Aside0 (idsF ns (kl3 t y n) = none) := ⟨by have := idsF_key (ns := ns) HNK.out; rw [hf] at this; exact this⟩
  have HL2 := Aside0.mk hl
  have d8 : (4000 : Int) ≤ (ns.length : Int) := by omega
  clear hS hr hne hf HOK hl
  go_enter Try.func18, Try.ntmps18
  go_wp2_with (first | (go_at_call 44; refine (validP_calls S m _ ns full _ _ HS.out).mono ?_; rintro e w' ⟨rfl, rfl⟩; first | rw [HY.out] | rw [HN.out]) | (go_at_call 45; (with_reducible refine k5.mono ?_); rintro e w' ⟨rfl, rfl⟩) | (go_at_call 45; (with_reducible refine k6.mono ?_); rintro e w' ⟨rfl, rfl⟩))
  have HBX := Aside0.mk (blk_new w (.cells #[.int .i64 t, .int .i64 y, .int .i64 n] 39))
  have HFa : Aside0 (Fr w (w.alloc (.cells #[.int .i64 t, .int .i64 y, .int .i64 n] 39)) (ownS S m (.slice A ns.length c))) := ⟨(Fr.refl _ _).alloc _⟩
  have HSa : Aside0 (StAt 58 (w.alloc (.cells #[.int .i64 t, .int .i64 y, .int .i64 n] 39)) S m (.slice A ns.length c) ns full) := ⟨HS.out.kept ((Fr.refl w (fun _ => False)).alloc _) (fun _ _ h => h)⟩
  have HLT : Aside0 (∀ k, ownS S m (.slice A ns.length c) k → k < w.heap.size) := ⟨fun k hk => HS.out.lt hk⟩
  generalize w.alloc (.cells #[.int .i64 t, .int .i64 y, .int .i64 n] 39) = wa at HBX HFa HSa ⊢
  have qb0 : wa.cell? ⟨w.heap.size, 0, none⟩ = some (.int .i64 t) := (blk_cell HBX.out 0).trans rfl
  have qb1 : wa.cell? ⟨w.heap.size, 1, none⟩ = some (.int .i64 y) := (blk_cell HBX.out 1).trans rfl
  have qb2 : wa.cell? ⟨w.heap.size, 2, none⟩ = some (.int .i64 n) := (blk_cell HBX.out 2).trans rfl
  refine start_ (n := 11) (S := fun w' => w'.cell? ⟨w.heap.size, 0, none⟩ = some (.int .i64 t) ∧ w'.cell? ⟨w.heap.size, 1, none⟩ = some (.int .i64 y) ∧ w'.cell? ⟨w.heap.size, 2, none⟩ = some (.int .i64 n) ∧ w'.cell? ⟨S, 1, none⟩ = some (.map (some m)) ∧ MapIs Try.prog 39 w' m ns.length (idsF ns)) (ds := []) #[false, false, false, false, false, false, false, false, false, false, false] (by kernel_rfl) rfl rfl ⟨qb0, qb1, qb2, HSa.out.cell1, HSa.out.ids⟩ (fun hHeld => ?_)
  refine pure_ (i := 0) (N := some 53) (v := ?_) (a' := ?_) #[true, false, false, false, false, false, false, false, false, false, false] rfl rfl (by kernel_rfl) (fun _ _ _ h => h) (Or.inl ⟨by rfl, ?_⟩) ?_ ?_
  rotate_left
  · intro w'
    go_simp
    with_reducible rfl
  rotate_left
  · simp only [Act.put, List.setIfInBounds_toArray, List.set_cons_zero, List.set_cons_succ, i64_w, i32_w]
    rfl
  refine pure_ (i := 1) (N := some 54) (v := ?_) (a' := ?_) #[true, true, false, false, false, false, false, false, false, false, false] rfl rfl (by kernel_rfl) (fun _ _ _ h => h) (Or.inl ⟨by rfl, ?_⟩) ?_ ?_
  rotate_left
  · intro w'
    go_simp
    with_reducible rfl
  rotate_left
  · simp only [Act.put, List.setIfInBounds_toArray, List.set_cons_zero, List.set_cons_succ, i64_w, i32_w]
    rfl
  refine pure_ (i := 2) (N := some 55) (v := ?_) (a' := ?_) #[true, true, true, false, false, false, false, false, false, false, false] rfl rfl (by kernel_rfl) (fun _ _ _ h => h) (Or.inl ⟨by rfl, ?_⟩) ?_ ?_
  rotate_left
  · intro w'
    go_simp
    with_reducible rfl
  rotate_left
  · simp only [Act.put, List.setIfInBounds_toArray, List.set_cons_zero, List.set_cons_succ, i64_w, i32_w]
    rfl
  refine take_ (i := 3) (N := some 56) (v := ?_) (a' := ?_) #[true, true, true, true, false, false, false, false, false, false, false] rfl rfl (by kernel_rfl) (fun _ _ _ h => h) (Or.inl ⟨by rfl, ?_⟩) hHeld ?_ ?_
  rotate_left
  · rintro w' ⟨s0, s1, s2, s3, s4⟩
    go_simp
    with_reducible rfl
  rotate_left
  · simp only [Act.put, List.setIfInBounds_toArray, List.set_cons_zero, List.set_cons_succ, i64_w, i32_w]
    rfl
  refine take_ (i := 4) (N := some 57) (v := ?_) (a' := ?_) #[true, true, true, true, true, false, false, false, false, false, false] rfl rfl (by kernel_rfl) (fun _ _ _ h => h) (Or.inl ⟨by rfl, ?_⟩) hHeld ?_ ?_
  rotate_left
  · rintro w' ⟨s0, s1, s2, s3, s4⟩
    go_simp
    with_reducible rfl
  rotate_left
  · simp only [Act.put, List.setIfInBounds_toArray, List.set_cons_zero, List.set_cons_succ, i64_w, i32_w]
    rfl
  refine take_ (i := 5) (N := some 58) (v := ?_) (a' := ?_) #[true, true, true, true, true, true, false, false, false, false, false] rfl rfl (by kernel_rfl) (fun _ _ _ h => h) (Or.inl ⟨by rfl, ?_⟩) hHeld ?_ ?_
  rotate_left
  · rintro w' ⟨s0, s1, s2, s3, s4⟩
    have hlk := MapIs.look s4 true K39 Try.underlying56 (zero3 w') (key39 HNK.out.ok.1 HNK.out.ok.2.1 HNK.out.ok.2.2)
    rw [HIV.out] at hlk
    simp only [if_true, Option.getD_none, Option.isSome_none] at hlk
    go_simp
    with_reducible rfl
  rotate_left
  · simp only [Act.put, List.setIfInBounds_toArray, List.set_cons_zero, List.set_cons_succ, i64_w, i32_w]
    rfl
  refine pure_ (i := 6) (N := some 52) (v := ?_) (a' := ?_) #[true, true, true, true, true, true, true, false, false, false, false] rfl rfl (by kernel_rfl) (fun _ _ _ h => h) (Or.inl ⟨by rfl, ?_⟩) ?_ ?_
  rotate_left
  · intro w'
    go_simp
    with_reducible rfl
  rotate_left
  · simp only [Act.put, List.setIfInBounds_toArray, List.set_cons_zero, List.set_cons_succ, i64_w, i32_w]
    rfl
  refine pure_ (i := 7) (N := some 59) (v := ?_) (a' := ?_) #[true, true, true, true, true, true, true, true, false, false, false] rfl rfl (by kernel_rfl) (fun _ _ _ h => h) (Or.inl ⟨by rfl, ?_⟩) ?_ ?_
  rotate_left
  · intro w'
    go_simp
    with_reducible rfl
  rotate_left
  · simp only [Act.put, List.setIfInBounds_toArray, List.set_cons_zero, List.set_cons_succ, i64_w, i32_w]
    rfl
  refine pure_ (i := 8) (N := some 60) (v := ?_) (a' := ?_) #[true, true, true, true, true, true, true, true, true, false, false] rfl rfl (by kernel_rfl) (fun _ _ _ h => h) (Or.inl ⟨by rfl, ?_⟩) ?_ ?_
  rotate_left
  · intro w'
    go_simp
    with_reducible rfl
  rotate_left
  · simp only [Act.put, List.setIfInBounds_toArray, List.set_cons_zero, List.set_cons_succ, i64_w, i32_w]
    rfl
  refine pure_ (i := 9) (N := some 10) (v := ?_) (a' := ?_) #[true, true, true, true, true, true, true, true, true, true, false] rfl rfl (by kernel_rfl) (fun _ _ _ h => h) (Or.inl ⟨by rfl, ?_⟩) ?_ ?_
  rotate_left
  · intro w'
    go_simp
    with_reducible rfl
  rotate_left
  · simp only [Act.put, List.setIfInBounds_toArray, List.set_cons_zero, List.set_cons_succ, i64_w, i32_w]
    rfl
  refine pure_ (i := 10) (N := some 11) (v := ?_) (a' := ?_) #[true, true, true, true, true, true, true, true, true, true, true] rfl rfl (by kernel_rfl) (fun _ _ _ h => h) (Or.inl ⟨by rfl, ?_⟩) ?_ ?_
  rotate_left
  · intro w'
    go_simp
    with_reducible rfl
  rotate_left
  · simp only [Act.put, List.setIfInBounds_toArray, List.set_cons_zero, List.set_cons_succ, i64_w, i32_w]
    rfl
  refine done_ (by kernel_rfl) ?_
  have HSb : Aside0 (StAt 58 wa.drew S m (.slice A ns.length c) ns full) := ⟨HSa.out.kept ((Fr.refl wa (fun _ => False)).drew) (fun _ _ h => h)⟩
  have HFb : Aside0 (Fr w wa.drew (ownS S m (.slice A ns.length c))) := ⟨HFa.out.drew⟩
  have HBb : Aside0 (wa.drew.heap[w.heap.size]? = some (.cells #[.int .i64 t, .int .i64 y, .int .i64 n] 39 (0, 0))) := ⟨HBX.out⟩
  generalize wa.drew = wb at HSb HFb HBb ⊢
  clear qb0 qb1 qb2 HBX HFa HSa
  have qb0 : wb.cell? ⟨w.heap.size, 0, none⟩ = some (.int .i64 t) := (blk_cell HBb.out 0).trans rfl
  have qb1 : wb.cell? ⟨w.heap.size, 1, none⟩ = some (.int .i64 y) := (blk_cell HBb.out 1).trans rfl
  have qb2 : wb.cell? ⟨w.heap.size, 2, none⟩ = some (.int .i64 n) := (blk_cell HBb.out 2).trans rfl
  have hcS0 := HSb.out.cell0
  have hcS2 := HSb.out.cell2
  have hfS2 := blk_frozen HSb.out.blk 2
  have HLN := Aside0.mk hln
  clear hln
  go_wp2
  go_ret
  refine ⟨rfl, _, ⟨blk_put HSb.out.blk 2 _ rfl, ?_, ?_, HSb.out.len, HSb.out.ok⟩, HFb.out.setCell (.inl (.inl rfl)) _, .inl rfl⟩
  · have h1 := Kd.R_tight rfl HSb.out.row
    refine Kd.R_mono (Kd.R_far h1 (p := ⟨S, 2, none⟩) (fun k hk e => ?_) _) (fun _ _ => trivial)
    exact Kd.R_ne HSb.out.row HSb.out.blk (by decide) (by rw [← hk, e])
  · exact HSb.out.ids.setCell (fun e => MapIs.no_cells HSb.out.ids (by rw [show m = S from e]; exact HSb.out.blk)) _
set_option maxRecDepth 100000 in
set_option maxHeartbeats 4000000 in
theorem nodeR_same (S m : Nat) (v : Value) (ns : List N39) (full : Bool) (t y n : Int) (w : World) (hS : StAt 67 w S m v ns full) (hr : refuses ns t y n = false) (hne : y = n) :
    Calls Try.prog 27 #[.pointer (some ⟨S, 0, none⟩), .int .i64 t, .int .i64 y, .int .i64 n] w (NodeEnd 67 w S m v ns full y) := by
  have HS := Aside0.mk hS
  have HOK := NodeOk.of hr
  have HNK := Aside0.mk (valid_okN HOK hS.len)
  have d1 : decide (t < 0) = false := by have := HOK.t0; simp; omega
  have d2 : decide (1000 < t) = false := by have := HOK.t1; simp; omega
  have HY := Aside0.mk HOK.vy
  have HN := Aside0.mk HOK.vn
  have HYL := Aside0.mk (valid_lt HOK.vy).2
  have HNL := Aside0.mk (valid_lt HOK.vn).2
  have d5 : decide (topN ns y ≤ t) = false := by have := HOK.ty; simp; omega
  have d6 : decide (topN ns n ≤ t) = false := by have := HOK.tn; simp; omega
  have k5 := topR_calls S m v ns full y w HS.out HYL.out
  have k6 := topR_calls S m v ns full n w HS.out HNL.out
  obtain ⟨A, c, ev⟩ := Kd.R_slice hS.row
  subst ev
  have hln := hS.len
  generalize topN ns y = ty at d5 k5
  generalize topN ns n = tn at d6 k6
  have d7 : (y == n) = true := by simpa using hne
  clear hS hr hne HOK
  go_enter Try.func27, Try.ntmps27
  go_wp2_with (first | (go_at_call 42; refine (validR_calls S m _ ns full _ _ HS.out).mono ?_; rintro e w' ⟨rfl, rfl⟩; first | rw [HY.out] | rw [HN.out]) | (go_at_call 47; (with_reducible refine k5.mono ?_); rintro e w' ⟨rfl, rfl⟩) | (go_at_call 47; (with_reducible refine k6.mono ?_); rintro e w' ⟨rfl, rfl⟩))
  go_ret
  exact ⟨rfl, _, HS.out, Fr.refl _ _, .inl rfl⟩
set_option maxRecDepth 100000 in
set_option maxHeartbeats 4000000 in
theorem nodeR_has (S m : Nat) (v : Value) (ns : List N39) (full : Bool) (t y n : Int) (w : World) (hS : StAt 67 w S m v ns full) (hr : refuses ns t y n = false) (hne : ¬ y = n) (i : Nat) (hf : findN ns ⟨t, y, n⟩ = some i) :
    Calls Try.prog 27 #[.pointer (some ⟨S, 0, none⟩), .int .i64 t, .int .i64 y, .int .i64 n] w (NodeEnd 67 w S m v ns full (i : Int)) := by
  have HS := Aside0.mk hS
  have HOK := NodeOk.of hr
  have HNK := Aside0.mk (valid_okN HOK hS.len)
  have d1 : decide (t < 0) = false := by have := HOK.t0; simp; omega
  have d2 : decide (1000 < t) = false := by have := HOK.t1; simp; omega
  have HY := Aside0.mk HOK.vy
  have HN := Aside0.mk HOK.vn
  have HYL := Aside0.mk (valid_lt HOK.vy).2
  have HNL := Aside0.mk (valid_lt HOK.vn).2
  have d5 : decide (topN ns y ≤ t) = false := by have := HOK.ty; simp; omega
  have d6 : decide (topN ns n ≤ t) = false := by have := HOK.tn; simp; omega
  have k5 := topR_calls S m v ns full y w HS.out HYL.out
  have k6 := topR_calls S m v ns full n w HS.out HNL.out
  obtain ⟨A, c, ev⟩ := Kd.R_slice hS.row
  subst ev
  have hln := hS.len
  generalize topN ns y = ty at d5 k5
  generalize topN ns n = tn at d6 k6
  have d7 : (y == n) = false := by simpa using hne
  have HIV : Aside0 (idsF ns (kl3 t y n) = some (.int .i64 (i : Int))) := ⟨by have := idsF_key (ns := ns) HNK.out; rw [hf] at this; exact this⟩
  clear hS hr hne hf HOK
  go_enter Try.func27, Try.ntmps27
  go_wp2_with (first | (go_at_call 42; refine (validR_calls S m _ ns full _ _ HS.out).mono ?_; rintro e w' ⟨rfl, rfl⟩; first | rw [HY.out] | rw [HN.out]) | (go_at_call 47; (with_reducible refine k5.mono ?_); rintro e w' ⟨rfl, rfl⟩) | (go_at_call 47; (with_reducible refine k6.mono ?_); rintro e w' ⟨rfl, rfl⟩))
  have HBX := Aside0.mk (blk_new w (.cells #[.int .i64 t, .int .i64 y, .int .i64 n] 39))
  have HFa : Aside0 (Fr w (w.alloc (.cells #[.int .i64 t, .int .i64 y, .int .i64 n] 39)) (ownS S m (.slice A ns.length c))) := ⟨(Fr.refl _ _).alloc _⟩
  have HSa : Aside0 (StAt 67 (w.alloc (.cells #[.int .i64 t, .int .i64 y, .int .i64 n] 39)) S m (.slice A ns.length c) ns full) := ⟨HS.out.kept ((Fr.refl w (fun _ => False)).alloc _) (fun _ _ h => h)⟩
  have HLT : Aside0 (∀ k, ownS S m (.slice A ns.length c) k → k < w.heap.size) := ⟨fun k hk => HS.out.lt hk⟩
  generalize w.alloc (.cells #[.int .i64 t, .int .i64 y, .int .i64 n] 39) = wa at HBX HFa HSa ⊢
  have qb0 : wa.cell? ⟨w.heap.size, 0, none⟩ = some (.int .i64 t) := (blk_cell HBX.out 0).trans rfl
  have qb1 : wa.cell? ⟨w.heap.size, 1, none⟩ = some (.int .i64 y) := (blk_cell HBX.out 1).trans rfl
  have qb2 : wa.cell? ⟨w.heap.size, 2, none⟩ = some (.int .i64 n) := (blk_cell HBX.out 2).trans rfl
  refine start_ (n := 11) (S := fun w' => w'.cell? ⟨w.heap.size, 0, none⟩ = some (.int .i64 t) ∧ w'.cell? ⟨w.heap.size, 1, none⟩ = some (.int .i64 y) ∧ w'.cell? ⟨w.heap.size, 2, none⟩ = some (.int .i64 n) ∧ w'.cell? ⟨S, 1, none⟩ = some (.map (some m)) ∧ MapIs Try.prog 39 w' m ns.length (idsF ns)) (ds := []) #[false, false, false, false, false, false, false, false, false, false, false] (by kernel_rfl) rfl rfl ⟨qb0, qb1, qb2, HSa.out.cell1, HSa.out.ids⟩ (fun hHeld => ?_)
  refine pure_ (i := 0) (N := some 53) (v := ?_) (a' := ?_) #[true, false, false, false, false, false, false, false, false, false, false] rfl rfl (by kernel_rfl) (fun _ _ _ h => h) (Or.inl ⟨by rfl, ?_⟩) ?_ ?_
  rotate_left
  · intro w'
    go_simp
    with_reducible rfl
  rotate_left
  · simp only [Act.put, List.setIfInBounds_toArray, List.set_cons_zero, List.set_cons_succ, i64_w, i32_w]
    rfl
  refine pure_ (i := 1) (N := some 54) (v := ?_) (a' := ?_) #[true, true, false, false, false, false, false, false, false, false, false] rfl rfl (by kernel_rfl) (fun _ _ _ h => h) (Or.inl ⟨by rfl, ?_⟩) ?_ ?_
  rotate_left
  · intro w'
    go_simp
    with_reducible rfl
  rotate_left
  · simp only [Act.put, List.setIfInBounds_toArray, List.set_cons_zero, List.set_cons_succ, i64_w, i32_w]
    rfl
  refine pure_ (i := 2) (N := some 55) (v := ?_) (a' := ?_) #[true, true, true, false, false, false, false, false, false, false, false] rfl rfl (by kernel_rfl) (fun _ _ _ h => h) (Or.inl ⟨by rfl, ?_⟩) ?_ ?_
  rotate_left
  · intro w'
    go_simp
    with_reducible rfl
  rotate_left
  · simp only [Act.put, List.setIfInBounds_toArray, List.set_cons_zero, List.set_cons_succ, i64_w, i32_w]
    rfl
  refine take_ (i := 3) (N := some 56) (v := ?_) (a' := ?_) #[true, true, true, true, false, false, false, false, false, false, false] rfl rfl (by kernel_rfl) (fun _ _ _ h => h) (Or.inl ⟨by rfl, ?_⟩) hHeld ?_ ?_
  rotate_left
  · rintro w' ⟨s0, s1, s2, s3, s4⟩
    go_simp
    with_reducible rfl
  rotate_left
  · simp only [Act.put, List.setIfInBounds_toArray, List.set_cons_zero, List.set_cons_succ, i64_w, i32_w]
    rfl
  refine take_ (i := 4) (N := some 57) (v := ?_) (a' := ?_) #[true, true, true, true, true, false, false, false, false, false, false] rfl rfl (by kernel_rfl) (fun _ _ _ h => h) (Or.inl ⟨by rfl, ?_⟩) hHeld ?_ ?_
  rotate_left
  · rintro w' ⟨s0, s1, s2, s3, s4⟩
    go_simp
    with_reducible rfl
  rotate_left
  · simp only [Act.put, List.setIfInBounds_toArray, List.set_cons_zero, List.set_cons_succ, i64_w, i32_w]
    rfl
  refine take_ (i := 5) (N := some 58) (v := ?_) (a' := ?_) #[true, true, true, true, true, true, false, false, false, false, false] rfl rfl (by kernel_rfl) (fun _ _ _ h => h) (Or.inl ⟨by rfl, ?_⟩) hHeld ?_ ?_
  rotate_left
  · rintro w' ⟨s0, s1, s2, s3, s4⟩
    have hlk := MapIs.look s4 true K39 Try.underlying56 (zero3 w') (key39 HNK.out.ok.1 HNK.out.ok.2.1 HNK.out.ok.2.2)
    rw [HIV.out] at hlk
    simp only [if_true, Option.getD_some, Option.isSome_some] at hlk
    go_simp
    with_reducible rfl
  rotate_left
  · simp only [Act.put, List.setIfInBounds_toArray, List.set_cons_zero, List.set_cons_succ, i64_w, i32_w]
    rfl
  refine pure_ (i := 6) (N := some 52) (v := ?_) (a' := ?_) #[true, true, true, true, true, true, true, false, false, false, false] rfl rfl (by kernel_rfl) (fun _ _ _ h => h) (Or.inl ⟨by rfl, ?_⟩) ?_ ?_
  rotate_left
  · intro w'
    go_simp
    with_reducible rfl
  rotate_left
  · simp only [Act.put, List.setIfInBounds_toArray, List.set_cons_zero, List.set_cons_succ, i64_w, i32_w]
    rfl
  refine pure_ (i := 7) (N := some 59) (v := ?_) (a' := ?_) #[true, true, true, true, true, true, true, true, false, false, false] rfl rfl (by kernel_rfl) (fun _ _ _ h => h) (Or.inl ⟨by rfl, ?_⟩) ?_ ?_
  rotate_left
  · intro w'
    go_simp
    with_reducible rfl
  rotate_left
  · simp only [Act.put, List.setIfInBounds_toArray, List.set_cons_zero, List.set_cons_succ, i64_w, i32_w]
    rfl
  refine pure_ (i := 8) (N := some 60) (v := ?_) (a' := ?_) #[true, true, true, true, true, true, true, true, true, false, false] rfl rfl (by kernel_rfl) (fun _ _ _ h => h) (Or.inl ⟨by rfl, ?_⟩) ?_ ?_
  rotate_left
  · intro w'
    go_simp
    with_reducible rfl
  rotate_left
  · simp only [Act.put, List.setIfInBounds_toArray, List.set_cons_zero, List.set_cons_succ, i64_w, i32_w]
    rfl
  refine pure_ (i := 9) (N := some 10) (v := ?_) (a' := ?_) #[true, true, true, true, true, true, true, true, true, true, false] rfl rfl (by kernel_rfl) (fun _ _ _ h => h) (Or.inl ⟨by rfl, ?_⟩) ?_ ?_
  rotate_left
  · intro w'
    go_simp
    with_reducible rfl
  rotate_left
  · simp only [Act.put, List.setIfInBounds_toArray, List.set_cons_zero, List.set_cons_succ, i64_w, i32_w]
    rfl
  refine pure_ (i := 10) (N := some 11) (v := ?_) (a' := ?_) #[true, true, true, true, true, true, true, true, true, true, true] rfl rfl (by kernel_rfl) (fun _ _ _ h => h) (Or.inl ⟨by rfl, ?_⟩) ?_ ?_
  rotate_left
  · intro w'
    go_simp
    with_reducible rfl
  rotate_left
  · simp only [Act.put, List.setIfInBounds_toArray, List.set_cons_zero, List.set_cons_succ, i64_w, i32_w]
    rfl
  refine done_ (by kernel_rfl) ?_
  go_wp2
  go_ret
  exact ⟨rfl, _, HSa.out.kept ((Fr.refl wa (fun _ => False)).drew) (fun _ _ h => h), HFa.out.drew, .inl rfl⟩
set_option maxRecDepth 100000 in
set_option maxHeartbeats 4000000 in
theorem nodeR_full (S m : Nat) (v : Value) (ns : List N39) (full : Bool) (t y n : Int) (w : World) (hS : StAt 67 w S m v ns full) (hr : refuses ns t y n = false) (hne : ¬ y = n) (hf : findN ns ⟨t, y, n⟩ = none) (hl : 4000 ≤ ns.length) :
    Calls Try.prog 27 #[.pointer (some ⟨S, 0, none⟩), .int .i64 t, .int .i64 y, .int .i64 n] w (NodeEnd 67 w S m v ns true (-1002)) := by
  have HS := Aside0.mk hS
  have HOK := NodeOk.of hr
  have HNK := Aside0.mk (valid_okN HOK hS.len)
  have d1 : decide (t < 0) = false := by have := HOK.t0; simp; omega
  have d2 : decide (1000 < t) = false := by have := HOK.t1; simp; omega
  have HY := Aside0.mk HOK.vy
  have HN := Aside0.mk HOK.vn
  have HYL := Aside0.mk (valid_lt HOK.vy).2
  have HNL := Aside0.mk (valid_lt HOK.vn).2
  have d5 : decide (topN ns y ≤ t) = false := by have := HOK.ty; simp; omega
  have d6 : decide (topN ns n ≤ t) = false := by have := HOK.tn; simp; omega
  have k5 := topR_calls S m v ns full y w HS.out HYL.out
  have k6 := topR_calls S m v ns full n w HS.out HNL.out
  obtain ⟨A, c, ev⟩ := Kd.R_slice hS.row
  subst ev
  have hln := hS.len
  generalize topN ns y = ty at d5 k5
  generalize topN ns n = tn at d6 k6
  have d7 : (y == n) = false := by simpa using hne
  have HIV : Aside0 (idsF ns (kl3 t y n) = none) := ⟨by have := idsF_key (ns := ns) HNK.out; rw [hf] at this; exact this⟩
  have HL2 := Aside0.mk hl
  have d8 : (4000 : Int) ≤ (ns.length : Int) := by omega
  clear hS hr hne hf HOK hl
  go_enter Try.func27, Try.ntmps27
  go_wp2_with (first | (go_at_call 42; refine (validR_calls S m _ ns full _ _ HS.out).mono ?_; rintro e w' ⟨rfl, rfl⟩; first | rw [HY.out] | rw [HN.out]) | (go_at_call 47; (with_reducible refine k5.mono ?_); rintro e w' ⟨rfl, rfl⟩) | (go_at_call 47; (with_reducible refine k6.mono ?_); rintro e w' ⟨rfl, rfl⟩))
  have HBX := Aside0.mk (blk_new w (.cells #[.int .i64 t, .int .i64 y, .int .i64 n] 39))
  have HFa : Aside0 (Fr w (w.alloc (.cells #[.int .i64 t, .int .i64 y, .int .i64 n] 39)) (ownS S m (.slice A ns.length c))) := ⟨(Fr.refl _ _).alloc _⟩
  have HSa : Aside0 (StAt 67 (w.alloc (.cells #[.int .i64 t, .int .i64 y, .int .i64 n] 39)) S m (.slice A ns.length c) ns full) := ⟨HS.out.kept ((Fr.refl w (fun _ => False)).alloc _) (fun _ _ h => h)⟩
  have HLT : Aside0 (∀ k, ownS S m (.slice A ns.length c) k → k < w.heap.size) := ⟨fun k hk => HS.out.lt hk⟩
  generalize w.alloc (.cells #[.int .i64 t, .int .i64 y, .int .i64 n] 39) = wa at HBX HFa HSa ⊢
  have qb0 : wa.cell? ⟨w.heap.size, 0, none⟩ = some (.int .i64 t) := (blk_cell HBX.out 0).trans rfl
  have qb1 : wa.cell? ⟨w.heap.size, 1, none⟩ = some (.int .i64 y) := (blk_cell HBX.out 1).trans rfl
  have qb2 : wa.cell? ⟨w.heap.size, 2, none⟩ = some (.int .i64 n) := (blk_cell HBX.out 2).trans rfl
  refine start_ (n := 11) (S := fun w' => w'.cell? ⟨w.heap.size, 0, none⟩ = some (.int .i64 t) ∧ w'.cell? ⟨w.heap.size, 1, none⟩ = some (.int .i64 y) ∧ w'.cell? ⟨w.heap.size, 2, none⟩ = some (.int .i64 n) ∧ w'.cell? ⟨S, 1, none⟩ = some (.map (some m)) ∧ MapIs Try.prog 39 w' m ns.length (idsF ns)) (ds := []) #[false, false, false, false, false, false, false, false, false, false, false] (by kernel_rfl) rfl rfl ⟨qb0, qb1, qb2, HSa.out.cell1, HSa.out.ids⟩ (fun hHeld => ?_)
  refine pure_ (i := 0) (N := some 53) (v := ?_) (a' := ?_) #[true, false, false, false, false, false, false, false, false, false, false] rfl rfl (by kernel_rfl) (fun _ _ _ h => h) (Or.inl ⟨by rfl, ?_⟩) ?_ ?_
  rotate_left
  · intro w'
    go_simp
    with_reducible rfl
  rotate_left
  · simp only [Act.put, List.setIfInBounds_toArray, List.set_cons_zero, List.set_cons_succ, i64_w, i32_w]
    rfl
  refine pure_ (i := 1) (N := some 54) (v := ?_) (a' := ?_) #[true, true, false, false, false, false, false, false, false, false, false] rfl rfl (by kernel_rfl) (fun _ _ _ h => h) (Or.inl ⟨by rfl, ?_⟩) ?_ ?_
  rotate_left
  · intro w'
    go_simp
    with_reducible rfl
  rotate_left
  · simp only [Act.put, List.setIfInBounds_toArray, List.set_cons_zero, List.set_cons_succ, i64_w, i32_w]
    rfl
  refine pure_ (i := 2) (N := some 55) (v := ?_) (a' := ?_) #[true, true, true, false, false, false, false, false, false, false, false] rfl rfl (by kernel_rfl) (fun _ _ _ h => h) (Or.inl ⟨by rfl, ?_⟩) ?_ ?_
  rotate_left
  · intro w'
    go_simp
    with_reducible rfl
  rotate_left
  · simp only [Act.put, List.setIfInBounds_toArray, List.set_cons_zero, List.set_cons_succ, i64_w, i32_w]
    rfl
  refine take_ (i := 3) (N := some 56) (v := ?_) (a' := ?_) #[true, true, true, true, false, false, false, false, false, false, false] rfl rfl (by kernel_rfl) (fun _ _ _ h => h) (Or.inl ⟨by rfl, ?_⟩) hHeld ?_ ?_
  rotate_left
  · rintro w' ⟨s0, s1, s2, s3, s4⟩
    go_simp
    with_reducible rfl
  rotate_left
  · simp only [Act.put, List.setIfInBounds_toArray, List.set_cons_zero, List.set_cons_succ, i64_w, i32_w]
    rfl
  refine take_ (i := 4) (N := some 57) (v := ?_) (a' := ?_) #[true, true, true, true, true, false, false, false, false, false, false] rfl rfl (by kernel_rfl) (fun _ _ _ h => h) (Or.inl ⟨by rfl, ?_⟩) hHeld ?_ ?_
  rotate_left
  · rintro w' ⟨s0, s1, s2, s3, s4⟩
    go_simp
    with_reducible rfl
  rotate_left
  · simp only [Act.put, List.setIfInBounds_toArray, List.set_cons_zero, List.set_cons_succ, i64_w, i32_w]
    rfl
  refine take_ (i := 5) (N := some 58) (v := ?_) (a' := ?_) #[true, true, true, true, true, true, false, false, false, false, false] rfl rfl (by kernel_rfl) (fun _ _ _ h => h) (Or.inl ⟨by rfl, ?_⟩) hHeld ?_ ?_
  rotate_left
  · rintro w' ⟨s0, s1, s2, s3, s4⟩
    have hlk := MapIs.look s4 true K39 Try.underlying56 (zero3 w') (key39 HNK.out.ok.1 HNK.out.ok.2.1 HNK.out.ok.2.2)
    rw [HIV.out] at hlk
    simp only [if_true, Option.getD_none, Option.isSome_none] at hlk
    go_simp
    with_reducible rfl
  rotate_left
  · simp only [Act.put, List.setIfInBounds_toArray, List.set_cons_zero, List.set_cons_succ, i64_w, i32_w]
    rfl
  refine pure_ (i := 6) (N := some 52) (v := ?_) (a' := ?_) #[true, true, true, true, true, true, true, false, false, false, false] rfl rfl (by kernel_rfl) (fun _ _ _ h => h) (Or.inl ⟨by rfl, ?_⟩) ?_ ?_
  rotate_left
  · intro w'
    go_simp
    with_reducible rfl
  rotate_left
  · simp only [Act.put, List.setIfInBounds_toArray, List.set_cons_zero, List.set_cons_succ, i64_w, i32_w]
    rfl
  refine pure_ (i := 7) (N := some 59) (v := ?_) (a' := ?_) #[true, true, true, true, true, true, true, true, false, false, false] rfl rfl (by kernel_rfl) (fun _ _ _ h => h) (Or.inl ⟨by rfl, ?_⟩) ?_ ?_
  rotate_left
  · intro w'
    go_simp
    with_reducible rfl
  rotate_left
  · simp only [Act.put, List.setIfInBounds_toArray, List.set_cons_zero, List.set_cons_succ, i64_w, i32_w]
    rfl
  refine pure_ (i := 8) (N := some 60) (v := ?_) (a' := ?_) #[true, true, true, true, true, true, true, true, true, false, false] rfl rfl (by kernel_rfl) (fun _ _ _ h => h) (Or.inl ⟨by rfl, ?_⟩) ?_ ?_
  rotate_left
  · intro w'
    go_simp
    with_reducible rfl
  rotate_left
  · simp only [Act.put, List.setIfInBounds_toArray, List.set_cons_zero, List.set_cons_succ, i64_w, i32_w]
    rfl
  refine pure_ (i := 9) (N := some 10) (v := ?_) (a' := ?_) #[true, true, true, true, true, true, true, true, true, true, false] rfl rfl (by kernel_rfl) (fun _ _ _ h => h) (Or.inl ⟨by rfl, ?_⟩) ?_ ?_
  rotate_left
  · intro w'
    go_simp
    with_reducible rfl
  rotate_left
  · simp only [Act.put, List.setIfInBounds_toArray, List.set_cons_zero, List.set_cons_succ, i64_w, i32_w]
    rfl
  refine pure_ (i := 10) (N := some 11) (v := ?_) (a' := ?_) #[true, true, true, true, true, true, true, true, true, true, true] rfl rfl (by kernel_rfl) (fun _ _ _ h => h) (Or.inl ⟨by rfl, ?_⟩) ?_ ?_
  rotate_left
  · intro w'
    go_simp
    with_reducible rfl
  rotate_left
  · simp only [Act.put, List.setIfInBounds_toArray, List.set_cons_zero, List.set_cons_succ, i64_w, i32_w]
    rfl
  refine done_ (by kernel_rfl) ?_
  have HSb : Aside0 (StAt 67 wa.drew S m (.slice A ns.length c) ns full) := ⟨HSa.out.kept ((Fr.refl wa (fun _ => False)).drew) (fun _ _ h => h)⟩
  have HFb : Aside0 (Fr w wa.drew (ownS S m (.slice A ns.length c))) := ⟨HFa.out.drew⟩
  have HBb : Aside0 (wa.drew.heap[w.heap.size]? = some (.cells #[.int .i64 t, .int .i64 y, .int .i64 n] 39 (0, 0))) := ⟨HBX.out⟩
  generalize wa.drew = wb at HSb HFb HBb ⊢
  clear qb0 qb1 qb2 HBX HFa HSa
  have qb0 : wb.cell? ⟨w.heap.size, 0, none⟩ = some (.int .i64 t) := (blk_cell HBb.out 0).trans rfl
  have qb1 : wb.cell? ⟨w.heap.size, 1, none⟩ = some (.int .i64 y) := (blk_cell HBb.out 1).trans rfl
  have qb2 : wb.cell? ⟨w.heap.size, 2, none⟩ = some (.int .i64 n) := (blk_cell HBb.out 2).trans rfl
  have hcS0 := HSb.out.cell0
  have hcS2 := HSb.out.cell2
  have hfS2 := blk_frozen HSb.out.blk 2
  have HLN := Aside0.mk hln
  clear hln
  go_wp2
  go_ret
  refine ⟨rfl, _, ⟨blk_put HSb.out.blk 2 _ rfl, ?_, ?_, HSb.out.len, HSb.out.ok⟩, HFb.out.setCell (.inl (.inl rfl)) _, .inl rfl⟩
  · have h1 := Kd.R_tight rfl HSb.out.row
    refine Kd.R_mono (Kd.R_far h1 (p := ⟨S, 2, none⟩) (fun k hk e => ?_) _) (fun _ _ => trivial)
    exact Kd.R_ne HSb.out.row HSb.out.blk (by decide) (by rw [← hk, e])
  · exact HSb.out.ids.setCell (fun e => MapIs.no_cells HSb.out.ids (by rw [show m = S from e]; exact HSb.out.blk)) _
end Go.Proofs.Ytihikenmknphkaa.Q

namespace Go.Proofs.Ytihikenmknphkaa.Q
open Go Go.RowKit Go.Maps Go.Proofs.YtihikenmknphkaaW.PrintWords Go.Proofs.YtihikenmknphkaaW.PrintLast Go.Proofs.YtihikenmknphkaaW.PrintMore Go.Proofs.Ytihikenmknphkaa.M
set_option linter.unusedVariables false
set_option linter.unusedSimpArgs false
set_option maxRecDepth 100000 in
set_option maxHeartbeats 4000000 in
theorem nodeP_goes (S m : Nat) (v : Value) (ns : List N39) (full : Bool) (t y n : Int) (w : World) (hS : StAt 58 w S m v ns full) (hr : refuses ns t y n = false) (hne : ¬ y = n) (hf : findN ns ⟨t, y, n⟩ = none) (hl : ns.length < 4000) :
    Calls Try.prog 18 #[.pointer (some ⟨S, 0, none⟩), .int .i64 t, .int .i64 y, .int .i64 n] w (NodeEnd 58 w S m v (ns ++ [⟨t, y, n⟩]) full ns.length) := by
  have HS := Aside0.mk hS
  have HOK := NodeOk.of hr
  have HNK := Aside0.mk (valid_okN HOK hS.len)
  have d1 : decide (t < 0) = false := by have := HOK.t0; simp; omega
  have d2 : decide (1000 < t) = false := by have := HOK.t1; simp; omega
  have HY := Aside0.mk HOK.vy
  have HN := Aside0.mk HOK.vn
  have HYL := Aside0.mk (valid_lt HOK.vy).2
  have HNL := Aside0.mk (valid_lt HOK.vn).2
  have d5 : decide (topN ns y ≤ t) = false := by have := HOK.ty; simp; omega
  have d6 : decide (topN ns n ≤ t) = false := by have := HOK.tn; simp; omega
  have k5 := topP_calls S m v ns full y w HS.out HYL.out
  have k6 := topP_calls S m v ns full n w HS.out HNL.out
  obtain ⟨A, c, ev⟩ := Kd.R_slice hS.row
  subst ev
  have hln := hS.len
  generalize topN ns y = ty at d5 k5
  generalize topN ns n = tn at d6 k6
  have d7 : (y == n) = false := by simpa using hne
  have HIV : Aside0 (idsF ns (kl3 t y n) = none) := ⟨by have := idsF_key (ns := ns) HNK.out; rw [hf] at this; exact this⟩
  have HNI := Aside0.mk (findN_none hf)
  have hl4 : (ns.length : Int) < 4000 := by omega
  have HOKS := Aside0.mk hS.ok
  clear hS hr hne hf HOK
  go_enter Try.func18, Try.ntmps18
  go_wp2_with (first | (go_at_call 44; refine (validP_calls S m _ ns full _ _ HS.out).mono ?_; rintro e w' ⟨rfl, rfl⟩; first | rw [HY.out] | rw [HN.out]) | (go_at_call 45; (with_reducible refine k5.mono ?_); rintro e w' ⟨rfl, rfl⟩) | (go_at_call 45; (with_reducible refine k6.mono ?_); rintro e w' ⟨rfl, rfl⟩))
  have HBX := Aside0.mk (blk_new w (.cells #[.int .i64 t, .int .i64 y, .int .i64 n] 39))
  have HFa : Aside0 (Fr w (w.alloc (.cells #[.int .i64 t, .int .i64 y, .int .i64 n] 39)) (ownS S m (.slice A ns.length c))) := ⟨(Fr.refl _ _).alloc _⟩
  have HSa : Aside0 (StAt 58 (w.alloc (.cells #[.int .i64 t, .int .i64 y, .int .i64 n] 39)) S m (.slice A ns.length c) ns full) := ⟨HS.out.kept ((Fr.refl w (fun _ => False)).alloc _) (fun _ _ h => h)⟩
  have HLT : Aside0 (∀ k, ownS S m (.slice A ns.length c) k → k < w.heap.size) := ⟨fun k hk => HS.out.lt hk⟩
  generalize w.alloc (.cells #[.int .i64 t, .int .i64 y, .int .i64 n] 39) = wa at HBX HFa HSa ⊢
  have qb0 : wa.cell? ⟨w.heap.size, 0, none⟩ = some (.int .i64 t) := (blk_cell HBX.out 0).trans rfl
  have qb1 : wa.cell? ⟨w.heap.size, 1, none⟩ = some (.int .i64 y) := (blk_cell HBX.out 1).trans rfl
  have qb2 : wa.cell? ⟨w.heap.size, 2, none⟩ = some (.int .i64 n) := (blk_cell HBX.out 2).trans rfl
  refine start_ (n := 11) (S := fun w' => w'.cell? ⟨w.heap.size, 0, none⟩ = some (.int .i64 t) ∧ w'.cell? ⟨w.heap.size, 1, none⟩ = some (.int .i64 y) ∧ w'.cell? ⟨w.heap.size, 2, none⟩ = some (.int .i64 n) ∧ w'.cell? ⟨S, 1, none⟩ = some (.map (some m)) ∧ MapIs Try.prog 39 w' m ns.length (idsF ns)) (ds := []) #[false, false, false, false, false, false, false, false, false, false, false] (by kernel_rfl) rfl rfl ⟨qb0, qb1, qb2, HSa.out.cell1, HSa.out.ids⟩ (fun hHeld => ?_)
  refine pure_ (i := 0) (N := some 53) (v := ?_) (a' := ?_) #[true, false, false, false, false, false, false, false, false, false, false] rfl rfl (by kernel_rfl) (fun _ _ _ h => h) (Or.inl ⟨by rfl, ?_⟩) ?_ ?_
  rotate_left
  · intro w'
    go_simp
    with_reducible rfl
  rotate_left
  · simp only [Act.put, List.setIfInBounds_toArray, List.set_cons_zero, List.set_cons_succ, i64_w, i32_w]
    rfl
  refine pure_ (i := 1) (N := some 54) (v := ?_) (a' := ?_) #[true, true, false, false, false, false, false, false, false, false, false] rfl rfl (by kernel_rfl) (fun _ _ _ h => h) (Or.inl ⟨by rfl, ?_⟩) ?_ ?_
  rotate_left
  · intro w'
    go_simp
    with_reducible rfl
  rotate_left
  · simp only [Act.put, List.setIfInBounds_toArray, List.set_cons_zero, List.set_cons_succ, i64_w, i32_w]
    rfl
  refine pure_ (i := 2) (N := some 55) (v := ?_) (a' := ?_) #[true, true, true, false, false, false, false, false, false, false, false] rfl rfl (by kernel_rfl) (fun _ _ _ h => h) (Or.inl ⟨by rfl, ?_⟩) ?_ ?_
  rotate_left
  · intro w'
    go_simp
    with_reducible rfl
  rotate_left
  · simp only [Act.put, List.setIfInBounds_toArray, List.set_cons_zero, List.set_cons_succ, i64_w, i32_w]
    rfl
  refine take_ (i := 3) (N := some 56) (v := ?_) (a' := ?_) #[true, true, true, true, false, false, false, false, false, false, false] rfl rfl (by kernel_rfl) (fun _ _ _ h => h) (Or.inl ⟨by rfl, ?_⟩) hHeld ?_ ?_
  rotate_left
  · rintro w' ⟨s0, s1, s2, s3, s4⟩
    go_simp
    with_reducible rfl
  rotate_left
  · simp only [Act.put, List.setIfInBounds_toArray, List.set_cons_zero, List.set_cons_succ, i64_w, i32_w]
    rfl
  refine take_ (i := 4) (N := some 57) (v := ?_) (a' := ?_) #[true, true, true, true, true, false, false, false, false, false, false] rfl rfl (by kernel_rfl) (fun _ _ _ h => h) (Or.inl ⟨by rfl, ?_⟩) hHeld ?_ ?_
  rotate_left
  · rintro w' ⟨s0, s1, s2, s3, s4⟩
    go_simp
    with_reducible rfl
  rotate_left
  · simp only [Act.put, List.setIfInBounds_toArray, List.set_cons_zero, List.set_cons_succ, i64_w, i32_w]
    rfl
  refine take_ (i := 5) (N := some 58) (v := ?_) (a' := ?_) #[true, true, true, true, true, true, false, false, false, false, false] rfl rfl (by kernel_rfl) (fun _ _ _ h => h) (Or.inl ⟨by rfl, ?_⟩) hHeld ?_ ?_
  rotate_left
  · rintro w' ⟨s0, s1, s2, s3, s4⟩
    have hlk := MapIs.look s4 true K39 Try.underlying56 (zero3 w') (key39 HNK.out.ok.1 HNK.out.ok.2.1 HNK.out.ok.2.2)
    rw [HIV.out] at hlk
    simp only [if_true, Option.getD_none, Option.isSome_none] at hlk
    go_simp
    with_reducible rfl
  rotate_left
  · simp only [Act.put, List.setIfInBounds_toArray, List.set_cons_zero, List.set_cons_succ, i64_w, i32_w]
    rfl
  refine pure_ (i := 6) (N := some 52) (v := ?_) (a' := ?_) #[true, true, true, true, true, true, true, false, false, false, false] rfl rfl (by kernel_rfl) (fun _ _ _ h => h) (Or.inl ⟨by rfl, ?_⟩) ?_ ?_
  rotate_left
  · intro w'
    go_simp
    with_reducible rfl
  rotate_left
  · simp only [Act.put, List.setIfInBounds_toArray, List.set_cons_zero, List.set_cons_succ, i64_w, i32_w]
    rfl
  refine pure_ (i := 7) (N := some 59) (v := ?_) (a' := ?_) #[true, true, true, true, true, true, true, true, false, false, false] rfl rfl (by kernel_rfl) (fun _ _ _ h => h) (Or.inl ⟨by rfl, ?_⟩) ?_ ?_
  rotate_left
  · intro w'
    go_simp
    with_reducible rfl
  rotate_left
  · simp only [Act.put, List.setIfInBounds_toArray, List.set_cons_zero, List.set_cons_succ, i64_w, i32_w]
    rfl
  refine pure_ (i := 8) (N := some 60) (v := ?_) (a' := ?_) #[true, true, true, true, true, true, true, true, true, false, false] rfl rfl (by kernel_rfl) (fun _ _ _ h => h) (Or.inl ⟨by rfl, ?_⟩) ?_ ?_
  rotate_left
  · intro w'
    go_simp
    with_reducible rfl
  rotate_left
  · simp only [Act.put, List.setIfInBounds_toArray, List.set_cons_zero, List.set_cons_succ, i64_w, i32_w]
    rfl
  refine pure_ (i := 9) (N := some 10) (v := ?_) (a' := ?_) #[true, true, true, true, true, true, true, true, true, true, false] rfl rfl (by kernel_rfl) (fun _ _ _ h => h) (Or.inl ⟨by rfl, ?_⟩) ?_ ?_
  rotate_left
  · intro w'
    go_simp
    with_reducible rfl
  rotate_left
  · simp only [Act.put, List.setIfInBounds_toArray, List.set_cons_zero, List.set_cons_succ, i64_w, i32_w]
    rfl
  refine pure_ (i := 10) (N := some 11) (v := ?_) (a' := ?_) #[true, true, true, true, true, true, true, true, true, true, true] rfl rfl (by kernel_rfl) (fun _ _ _ h => h) (Or.inl ⟨by rfl, ?_⟩) ?_ ?_
  rotate_left
  · intro w'
    go_simp
    with_reducible rfl
  rotate_left
  · simp only [Act.put, List.setIfInBounds_toArray, List.set_cons_zero, List.set_cons_succ, i64_w, i32_w]
    rfl
  refine done_ (by kernel_rfl) ?_
  have HSb : Aside0 (StAt 58 wa.drew S m (.slice A ns.length c) ns full) := ⟨HSa.out.kept ((Fr.refl wa (fun _ => False)).drew) (fun _ _ h => h)⟩
  have HFb : Aside0 (Fr w wa.drew (ownS S m (.slice A ns.length c))) := ⟨HFa.out.drew⟩
  have HBb : Aside0 (wa.drew.heap[w.heap.size]? = some (.cells #[.int .i64 t, .int .i64 y, .int .i64 n] 39 (0, 0))) := ⟨HBX.out⟩
  generalize wa.drew = wb at HSb HFb HBb ⊢
  clear qb0 qb1 qb2 HBX HFa HSa
  have qb0 : wb.cell? ⟨w.heap.size, 0, none⟩ = some (.int .i64 t) := (blk_cell HBb.out 0).trans rfl
  have qb1 : wb.cell? ⟨w.heap.size, 1, none⟩ = some (.int .i64 y) := (blk_cell HBb.out 1).trans rfl
  have qb2 : wb.cell? ⟨w.heap.size, 2, none⟩ = some (.int .i64 n) := (blk_cell HBb.out 2).trans rfl
  have hcS0 := HSb.out.cell0
  go_wp2_with fail
  clear qb0 qb1 qb2 hcS0
  have HBS := Aside0.mk HSb.out.blk
  have HRW := Aside0.mk HSb.out.row
  have HID := Aside0.mk HSb.out.ids
  have HBX := HBb
  have HFR := HFb
  clear HSb HBb HFb
  obtain ⟨wx, hwx⟩ : ∃ wx_ : World, wx_ = wb := ⟨_, rfl⟩
  rw [← hwx] at HBS HRW HID HBX HFR ⊢
  clear hwx
  refine start_ (n := 11) (S := fun w' => w'.cell? ⟨w.heap.size, 0, none⟩ = some (.int .i64 t) ∧ w'.cell? ⟨w.heap.size, 1, none⟩ = some (.int .i64 y) ∧ w'.cell? ⟨w.heap.size, 2, none⟩ = some (.int .i64 n) ∧ w'.cell? ⟨S, 0, none⟩ = some (.slice A ns.length c) ∧ w'.heap[S]? = some (.cells #[.slice A ns.length c, .map (some m), .bool full] 58 (0, 0))) (ds := [10]) #[false, false, false, false, false, false, false, false, false, false, false] (by kernel_rfl) rfl rfl ⟨(blk_cell HBX.out 0).trans rfl, (blk_cell HBX.out 1).trans rfl, (blk_cell HBX.out 2).trans rfl, (blk_cell HBS.out 0).trans rfl, HBS.out⟩ (fun hHeld => ?_)
  refine pure_ (i := 0) (N := some 72) (v := ?_) (a' := ?_) #[true, false, false, false, false, false, false, false, false, false, false] rfl rfl (by kernel_rfl) (fun _ _ _ h => h) (Or.inl ⟨by rfl, ?_⟩) ?_ ?_
  rotate_left
  · intro w'
    go_simp
    with_reducible rfl
  rotate_left
  · simp only [Act.put, List.setIfInBounds_toArray, List.set_cons_zero, List.set_cons_succ, i64_w, i32_w]
    rfl
  refine pure_ (i := 1) (N := some 73) (v := ?_) (a' := ?_) #[true, true, false, false, false, false, false, false, false, false, false] rfl rfl (by kernel_rfl) (fun _ _ _ h => h) (Or.inl ⟨by rfl, ?_⟩) ?_ ?_
  rotate_left
  · intro w'
    go_simp
    with_reducible rfl
  rotate_left
  · simp only [Act.put, List.setIfInBounds_toArray, List.set_cons_zero, List.set_cons_succ, i64_w, i32_w]
    rfl
  refine pure_ (i := 2) (N := some 74) (v := ?_) (a' := ?_) #[true, true, true, false, false, false, false, false, false, false, false] rfl rfl (by kernel_rfl) (fun _ _ _ h => h) (Or.inl ⟨by rfl, ?_⟩) ?_ ?_
  rotate_left
  · intro w'
    go_simp
    with_reducible rfl
  rotate_left
  · simp only [Act.put, List.setIfInBounds_toArray, List.set_cons_zero, List.set_cons_succ, i64_w, i32_w]
    rfl
  refine pure_ (i := 3) (N := some 75) (v := ?_) (a' := ?_) #[true, true, true, true, false, false, false, false, false, false, false] rfl rfl (by kernel_rfl) (fun _ _ _ h => h) (Or.inl ⟨by rfl, ?_⟩) ?_ ?_
  rotate_left
  · intro w'
    go_simp
    with_reducible rfl
  rotate_left
  · simp only [Act.put, List.setIfInBounds_toArray, List.set_cons_zero, List.set_cons_succ, i64_w, i32_w]
    rfl
  refine take_ (i := 4) (N := some 76) (v := ?_) (a' := ?_) #[true, true, true, true, true, false, false, false, false, false, false] rfl rfl (by kernel_rfl) (fun _ _ _ h => h) (Or.inl ⟨by rfl, ?_⟩) hHeld ?_ ?_
  rotate_left
  · rintro w' ⟨s0, s1, s2, s3, s4⟩
    go_simp
    with_reducible rfl
  rotate_left
  · simp only [Act.put, List.setIfInBounds_toArray, List.set_cons_zero, List.set_cons_succ, i64_w, i32_w]
    rfl
  refine take_ (i := 5) (N := some 77) (v := ?_) (a' := ?_) #[true, true, true, true, true, true, false, false, false, false, false] rfl rfl (by kernel_rfl) (fun _ _ _ h => h) (Or.inl ⟨by rfl, ?_⟩) hHeld ?_ ?_
  rotate_left
  · rintro w' ⟨s0, s1, s2, s3, s4⟩
    go_simp
    with_reducible rfl
  rotate_left
  · simp only [Act.put, List.setIfInBounds_toArray, List.set_cons_zero, List.set_cons_succ, i64_w, i32_w]
    rfl
  have n0_ := Aside0.mk (show (wx.drew).heap[S]? = some (.cells #[.slice A ns.length c, .map (some m), .bool full] 58 (0, 0)) from HBS.out)
  have n1_ := Aside0.mk (Kd.R_drew HRW.out)
  have n2_ := Aside0.mk (MapIs.drew HID.out)
  have n3_ := Aside0.mk (show (wx.drew).heap[w.heap.size]? = some (.cells #[.int .i64 t, .int .i64 y, .int .i64 n] 39 (0, 0)) from HBX.out)
  have n4_ := Aside0.mk (Fr.drew HFR.out)
  generalize wx.drew = wy at n0_ n1_ n2_ n3_ n4_ hHeld ⊢
  clear HBS HRW HID HBX HFR
  have HBS := n0_
  have HRW := n1_
  have HID := n2_
  have HBX := n3_
  have HFR := n4_
  clear n0_ n1_ n2_ n3_ n4_
  refine one_ (i := 6) (N := some 78) #[true, true, true, true, true, true, true, false, false, false, false] rfl rfl (by kernel_rfl) (by decide) (fun K hK => ?_)
  refine event_step (v := .slice (some ⟨wy.heap.size, 0, none⟩) 1 1) (w1 := wy.alloc (.cells #[.int .i64 t, .int .i64 y, .int .i64 n] 39)) rfl (by first | (go_simp; done) | (go_simp; rfl)) ?_
  have HA9 : Below wy.heap.size wy (wy.alloc (.cells #[.int .i64 t, .int .i64 y, .int .i64 n] 39)) := (Below.refl _ _).alloc (Nat.le_refl _) _
  refine hK.out _ _ ⟨(HA9.cell (World.block_lt_of_cell? wy _ hHeld.1)).trans hHeld.1, (HA9.cell (World.block_lt_of_cell? wy _ hHeld.2.1)).trans hHeld.2.1, (HA9.cell (World.block_lt_of_cell? wy _ hHeld.2.2.1)).trans hHeld.2.2.1, (HA9.cell (World.block_lt_of_cell? wy _ hHeld.2.2.2.1)).trans hHeld.2.2.2.1, (HA9.block _ (blk_lt HBS.out)).trans HBS.out⟩ (fun hHeld2 => ?_)
  clear hK K
  refine norm_ (a' := ?_) ?_ ?_
  rotate_left
  · show Act.put _ (some 78) _ = _
    simp only [Act.put, List.setIfInBounds_toArray, List.set_cons_zero, List.set_cons_succ, i64_w, i32_w]
    rfl
  refine one_ (i := 7) (N := some 79) #[true, true, true, true, true, true, true, true, false, false, false] rfl rfl (by kernel_rfl) (by decide) (fun K hK => ?_)
  refine Kd.R_append_step k39 (w0 := w) 0 (by rfl) (.tmp 76) (.tmp 78) 55 39 (.agg #[(.int .i64 0), (.int .i64 0), (.int .i64 0)]) 24 rfl Try.underlying55 info39 rfl (by decide) (by omega) (.slice A ns.length c) ns ⟨t, y, n⟩ [.int .i64 t, .int .i64 y, .int .i64 n] (fun _ => True) (fun _ => False) rfl rfl (k39_mkM _ _ _ ⟨t, y, n⟩) (fun _ hk => hk.elim) (fun _ _ => trivial) HRW.out HFR.out.b0 (Nat.zero_le _) (by omega) ?_
  intro v1 w1 hr hb hg hat
  obtain ⟨A1, c1, e1⟩ := Kd.R_slice hr
  rw [List.length_append, show ([(⟨t, y, n⟩ : N39)]).length = 1 from rfl] at e1
  subst e1
  have hSne : some S ≠ (Value.slice A ns.length c).ownBlock := Kd.R_ne HRW.out HBS.out (by decide)
  have hBne : some w.heap.size ≠ (Value.slice A ns.length c).ownBlock := fun e => by have := HLT.out _ (.inr (.inr e.symm)); omega
  have hMne : some m ≠ (Value.slice A ns.length c).ownBlock := by obtain ⟨inner, hown⟩ := Kd.R_own HRW.out; exact HID.out.ne_own hown
  have n0_ := Aside0.mk (blk_grown HBS.out hg hSne)
  have n1_ := Aside0.mk hr
  have n2_ := Aside0.mk (MapIs.kept HID.out hg hMne)
  have n3_ := Aside0.mk (blk_grown HBX.out hg hBne)
  have n4_ : Aside0 (Fr w w1 (ownS S m (.slice A ns.length c))) := ⟨HFR.out.trans (Fr.of_grown hg) (fun k hk => .inl (.inr (.inr hk)))⟩
  have HAT : Aside0 ((Value.slice A1 (ns.length + 1) c1).ownBlock = (Value.slice A ns.length c).ownBlock ∨ ∃ b, (Value.slice A1 (ns.length + 1) c1).ownBlock = some b ∧ w.heap.size ≤ b) := ⟨hat.imp id (fun ⟨b, h1, h2⟩ => ⟨b, h1, Nat.le_trans HFR.out.size h2⟩)⟩
  clear hr hb hg hat hSne hBne hMne HBS HRW HID HBX HFR hHeld hHeld2
  have HBS := n0_
  have HRW := n1_
  have HID := n2_
  have HBX := n3_
  have HFR := n4_
  clear n0_ n1_ n2_ n3_ n4_
  refine hK.out _ _ ⟨(blk_cell HBX.out 0).trans rfl, (blk_cell HBX.out 1).trans rfl, (blk_cell HBX.out 2).trans rfl, (blk_cell HBS.out 0).trans rfl, HBS.out⟩ (fun hHeld3 => ?_)
  clear hK K
  refine norm_ (a' := ?_) ?_ ?_
  rotate_left
  · show Act.put _ (some 79) _ = _
    simp only [Act.put, List.setIfInBounds_toArray, List.set_cons_zero, List.set_cons_succ, i64_w, i32_w]
    rfl
  refine pure_ (i := 8) (N := some 80) (v := ?_) (a' := ?_) #[true, true, true, true, true, true, true, true, true, false, false] rfl rfl (by kernel_rfl) (fun _ _ _ h => h) (Or.inl ⟨by rfl, ?_⟩) ?_ ?_
  rotate_left
  · intro w'
    go_simp
    with_reducible rfl
  rotate_left
  · simp only [Act.put, List.setIfInBounds_toArray, List.set_cons_zero, List.set_cons_succ, i64_w, i32_w]
    rfl
  refine pure_ (i := 9) (N := some 81) (v := ?_) (a' := ?_) #[true, true, true, true, true, true, true, true, true, true, false] rfl rfl (by kernel_rfl) (fun _ _ _ h => h) (Or.inl ⟨by rfl, ?_⟩) ?_ ?_
  rotate_left
  · intro w'
    go_simp
    with_reducible rfl
  rotate_left
  · simp only [Act.put, List.setIfInBounds_toArray, List.set_cons_zero, List.set_cons_succ, i64_w, i32_w]
    rfl
  refine last_ (i := 10) (N := none) #[true, true, true, true, true, true, true, true, true, true, true] rfl rfl (by kernel_rfl) (by decide) (fun K hK => ?_)
  have hs : w1.cell? ⟨S, 0, none⟩ = some (.slice A ns.length c) := (blk_cell HBS.out 0).trans rfl
  have hfs := blk_frozen HBS.out 0
  refine skip_ (w1 := w1.setCell ⟨S, 0, none⟩ (Value.slice A1 (ns.length + 1) c1)) (by rfl) rfl ?_ ?_
  · first | (go_simp; done) | (go_simp; rfl)
  have hSv : some S ≠ (Value.slice A1 (ns.length + 1) c1).ownBlock := Kd.R_ne HRW.out HBS.out (by decide)
  have n0_ : Aside0 ((w1.setCell ⟨S, 0, none⟩ (Value.slice A1 (ns.length + 1) c1)).heap[S]? = some (.cells #[.slice A1 (ns.length + 1) c1, .map (some m), .bool full] 58 (0, 0))) := ⟨blk_put HBS.out 0 _ rfl⟩
  have n1_ : Aside0 (Kd.R k39 39 (w1.setCell ⟨S, 0, none⟩ (Value.slice A1 (ns.length + 1) c1)) 0 (fun _ => True) (.slice A1 (ns.length + 1) c1) (ns ++ [⟨t, y, n⟩])) := ⟨Kd.R_mono (Kd.R_far (Kd.R_tight rfl HRW.out) (p := ⟨S, 0, none⟩) (fun k hk e => hSv (by rw [← hk, e])) _) (fun _ _ => trivial)⟩
  have n2_ := Aside0.mk (MapIs.setCell HID.out (a := ⟨S, 0, none⟩) (fun e => MapIs.no_cells HID.out (by rw [show m = S from e]; exact HBS.out)) (Value.slice A1 (ns.length + 1) c1))
  have n3_ : Aside0 ((w1.setCell ⟨S, 0, none⟩ (Value.slice A1 (ns.length + 1) c1)).heap[w.heap.size]? = some (.cells #[.int .i64 t, .int .i64 y, .int .i64 n] 39 (0, 0))) := ⟨(Below.heap_setCell w1 ⟨S, 0, none⟩ (Value.slice A1 (ns.length + 1) c1) w.heap.size (fun e => by have := HLT.out S (.inl rfl); have : w.heap.size = S := e; omega)).trans HBX.out⟩
  have n4_ : Aside0 (Fr w (w1.setCell ⟨S, 0, none⟩ (Value.slice A1 (ns.length + 1) c1)) (ownS S m (.slice A ns.length c))) := ⟨HFR.out.setCell (.inl (.inl rfl)) _⟩
  refine hK.out _ _ ?_
  generalize w1.setCell ⟨S, 0, none⟩ (Value.slice A1 (ns.length + 1) c1) = wz at n0_ n1_ n2_ n3_ n4_ ⊢
  clear hs hfs hSv HBS HRW HID HBX HFR hHeld3
  have HBS := n0_
  have HRW := n1_
  have HID := n2_
  have HBX := n3_
  have HFR := n4_
  clear n0_ n1_ n2_ n3_ n4_
  clear hK K
  refine done_ (by kernel_rfl) ?_
  go_wp2_with fail
  obtain ⟨wx, hwx⟩ : ∃ wx_ : World, wx_ = wz := ⟨_, rfl⟩
  rw [← hwx] at HBS HRW HID HBX HFR ⊢
  clear hwx
  refine start_ (n := 12) (S := fun w' => w'.cell? ⟨w.heap.size, 0, none⟩ = some (.int .i64 t) ∧ w'.cell? ⟨w.heap.size, 1, none⟩ = some (.int .i64 y) ∧ w'.cell? ⟨w.heap.size, 2, none⟩ = some (.int .i64 n) ∧ w'.cell? ⟨S, 1, none⟩ = some (.map (some m)) ∧ w'.cell? ⟨S, 0, none⟩ = some (.slice A1 (ns.length + 1) c1)) (ds := [11]) #[false, false, false, false, false, false, false, false, false, false, false, false] (by kernel_rfl) rfl rfl ⟨(blk_cell HBX.out 0).trans rfl, (blk_cell HBX.out 1).trans rfl, (blk_cell HBX.out 2).trans rfl, (blk_cell HBS.out 1).trans rfl, (blk_cell HBS.out 0).trans rfl⟩ (fun hHeld => ?_)
  refine pure_ (i := 0) (N := some 82) (v := ?_) (a' := ?_) #[true, false, false, false, false, false, false, false, false, false, false, false] rfl rfl (by kernel_rfl) (fun _ _ _ h => h) (Or.inl ⟨by rfl, ?_⟩) ?_ ?_
  rotate_left
  · intro w'
    go_simp
    with_reducible rfl
  rotate_left
  · simp only [Act.put, List.setIfInBounds_toArray, List.set_cons_zero, List.set_cons_succ, i64_w, i32_w]
    rfl
  refine pure_ (i := 1) (N := some 83) (v := ?_) (a' := ?_) #[true, true, false, false, false, false, false, false, false, false, false, false] rfl rfl (by kernel_rfl) (fun _ _ _ h => h) (Or.inl ⟨by rfl, ?_⟩) ?_ ?_
  rotate_left
  · intro w'
    go_simp
    with_reducible rfl
  rotate_left
  · simp only [Act.put, List.setIfInBounds_toArray, List.set_cons_zero, List.set_cons_succ, i64_w, i32_w]
    rfl
  refine pure_ (i := 2) (N := some 84) (v := ?_) (a' := ?_) #[true, true, true, false, false, false, false, false, false, false, false, false] rfl rfl (by kernel_rfl) (fun _ _ _ h => h) (Or.inl ⟨by rfl, ?_⟩) ?_ ?_
  rotate_left
  · intro w'
    go_simp
    with_reducible rfl
  rotate_left
  · simp only [Act.put, List.setIfInBounds_toArray, List.set_cons_zero, List.set_cons_succ, i64_w, i32_w]
    rfl
  refine pure_ (i := 5) (N := some 87) (v := ?_) (a' := ?_) #[true, true, true, false, false, true, false, false, false, false, false, false] rfl rfl (by kernel_rfl) (fun _ _ _ h => h) (Or.inl ⟨by rfl, ?_⟩) ?_ ?_
  rotate_left
  · intro w'
    go_simp
    with_reducible rfl
  rotate_left
  · simp only [Act.put, List.setIfInBounds_toArray, List.set_cons_zero, List.set_cons_succ, i64_w, i32_w]
    rfl
  refine pure_ (i := 6) (N := some 88) (v := ?_) (a' := ?_) #[true, true, true, false, false, true, true, false, false, false, false, false] rfl rfl (by kernel_rfl) (fun _ _ _ h => h) (Or.inl ⟨by rfl, ?_⟩) ?_ ?_
  rotate_left
  · intro w'
    go_simp
    with_reducible rfl
  rotate_left
  · simp only [Act.put, List.setIfInBounds_toArray, List.set_cons_zero, List.set_cons_succ, i64_w, i32_w]
    rfl
  refine pure_ (i := 7) (N := some 89) (v := ?_) (a' := ?_) #[true, true, true, false, false, true, true, true, false, false, false, false] rfl rfl (by kernel_rfl) (fun _ _ _ h => h) (Or.inl ⟨by rfl, ?_⟩) ?_ ?_
  rotate_left
  · intro w'
    go_simp
    with_reducible rfl
  rotate_left
  · simp only [Act.put, List.setIfInBounds_toArray, List.set_cons_zero, List.set_cons_succ, i64_w, i32_w]
    rfl
  refine take_ (i := 3) (N := some 85) (v := ?_) (a' := ?_) #[true, true, true, true, false, true, true, true, false, false, false, false] rfl rfl (by kernel_rfl) (fun _ _ _ h => h) (Or.inl ⟨by rfl, ?_⟩) hHeld ?_ ?_
  rotate_left
  · rintro w' ⟨s0, s1, s2, s3, s4⟩
    go_simp
    with_reducible rfl
  rotate_left
  · simp only [Act.put, List.setIfInBounds_toArray, List.set_cons_zero, List.set_cons_succ, i64_w, i32_w]
    rfl
  refine take_ (i := 4) (N := some 86) (v := ?_) (a' := ?_) #[true, true, true, true, true, true, true, true, false, false, false, false] rfl rfl (by kernel_rfl) (fun _ _ _ h => h) (Or.inl ⟨by rfl, ?_⟩) hHeld ?_ ?_
  rotate_left
  · rintro w' ⟨s0, s1, s2, s3, s4⟩
    go_simp
    with_reducible rfl
  rotate_left
  · simp only [Act.put, List.setIfInBounds_toArray, List.set_cons_zero, List.set_cons_succ, i64_w, i32_w]
    rfl
  refine take_ (i := 8) (N := some 90) (v := ?_) (a' := ?_) #[true, true, true, true, true, true, true, true, true, false, false, false] rfl rfl (by kernel_rfl) (fun _ _ _ h => h) (Or.inl ⟨by rfl, ?_⟩) hHeld ?_ ?_
  rotate_left
  · rintro w' ⟨s0, s1, s2, s3, s4⟩
    go_simp
    with_reducible rfl
  rotate_left
  · simp only [Act.put, List.setIfInBounds_toArray, List.set_cons_zero, List.set_cons_succ, i64_w, i32_w]
    rfl
  refine pure_ (i := 9) (N := some 91) (v := ?_) (a' := ?_) #[true, true, true, true, true, true, true, true, true, true, false, false] rfl rfl (by kernel_rfl) (fun _ _ _ h => h) (Or.inl ⟨by rfl, ?_⟩) ?_ ?_
  rotate_left
  · intro w'
    go_simp
    with_reducible rfl
  rotate_left
  · simp only [Act.put, List.setIfInBounds_toArray, List.set_cons_zero, List.set_cons_succ, i64_w, i32_w]
    rfl
  refine pure_ (i := 10) (N := some 92) (v := ?_) (a' := ?_) #[true, true, true, true, true, true, true, true, true, true, true, false] rfl rfl (by kernel_rfl) (fun _ _ _ h => h) (Or.inl ⟨by rfl, ?_⟩) ?_ ?_
  rotate_left
  · intro w'
    go_simp
    with_reducible rfl
  rotate_left
  · simp only [Act.put, List.setIfInBounds_toArray, List.set_cons_zero, List.set_cons_succ, i64_w, i32_w]
    rfl
  refine last_ (i := 11) (N := none) #[true, true, true, true, true, true, true, true, true, true, true, true] rfl rfl (by kernel_rfl) (by decide) (fun K hK => ?_)
  refine mstore_step rfl (.tmp 85) (.tmp 86) (.tmp 92) 56 rfl 39 3 K39 Try.underlying56 m ns.length (idsF ns) rfl (MapIs.drew HID.out) (by unfold maxLen; omega) (.agg #[.int .i64 t, .int .i64 y, .int .i64 n]) (.int .i64 (ns.length : Int)) (kl3 t y n) rfl ?hv (key39 HNK.out.ok.1 HNK.out.ok.2.1 HNK.out.ok.2.2) rfl ?_
  case hv => first | rfl | (refine congrArg (Value.int .i64) (?_ : _ = (ns.length : Int)); first | omega | (unfold wrap64; omega) | (rw [IntWalk.i64_in _ (by omega)]; omega))
  intro w9 hm9 hg9 hz9
  have hSm : some S ≠ some m := fun e => MapIs.no_cells HID.out (by injection e with e; rw [← e]; exact HBS.out)
  have hBm : some w.heap.size ≠ some m := fun e => by injection e with e; have := HLT.out m (.inr (.inl rfl)); omega
  have hVm : ∀ k, (.slice A1 (ns.length + 1) c1 : Value).ownBlock = some k → some k ≠ some m := fun k hk e => by obtain ⟨inner, hown⟩ := Kd.R_own HRW.out; exact MapIs.ne_own HID.out hown (by rw [← e]; exact hk.symm)
  have n0_ := Aside0.mk (blk_grown (show wx.drew.heap[S]? = _ from HBS.out) hg9 hSm)
  have n1_ := Aside0.mk (Kd.R_mono (ok' := fun _ => True) (Kd.R_grown (Kd.R_tight rfl (Kd.R_drew HRW.out)) hg9 (fun k hk => hVm k hk.symm)) (fun _ _ => trivial))
  have n2_ := Aside0.mk hm9
  have n3_ := Aside0.mk (blk_grown (show wx.drew.heap[w.heap.size]? = _ from HBX.out) hg9 hBm)
  have n4_ : Aside0 (Fr w w9 (ownS S m (.slice A ns.length c))) := ⟨(HFR.out.drew).trans (Fr.of_grown hg9) (fun k hk => .inl (.inr (.inl (by injection hk with hk; exact hk.symm))))⟩
  refine hK.out _ _ ?_
  clear hm9 hg9 hz9 hSm hBm hVm HBS HRW HID HBX HFR hHeld
  have HBS := n0_
  have HRW := n1_
  have HID := n2_
  have HBX := n3_
  have HFR := n4_
  clear n0_ n1_ n2_ n3_ n4_
  clear hK K
  refine done_ (by kernel_rfl) ?_
  have hcz := (blk_cell HBS.out 0).trans rfl
  go_wp2
  go_ret
  refine ⟨?_, _, StAt.of_parts HBS.out HRW.out HID.out (by omega) HOKS.out HNK.out HNI.out, HFR.out, HAT.out⟩
  first | rfl | (simp; done)
set_option maxRecDepth 100000 in
set_option maxHeartbeats 4000000 in
theorem nodeR_goes (S m : Nat) (v : Value) (ns : List N39) (full : Bool) (t y n : Int) (w : World) (hS : StAt 67 w S m v ns full) (hr : refuses ns t y n = false) (hne : ¬ y = n) (hf : findN ns ⟨t, y, n⟩ = none) (hl : ns.length < 4000) :
    Calls Try.prog 27 #[.pointer (some ⟨S, 0, none⟩), .int .i64 t, .int .i64 y, .int .i64 n] w (NodeEnd 67 w S m v (ns ++ [⟨t, y, n⟩]) full ns.length) := by
  have HS := Aside0.mk hS
  have HOK := NodeOk.of hr
  have HNK := Aside0.mk (valid_okN HOK hS.len)
  have d1 : decide (t < 0) = false := by have := HOK.t0; simp; omega
  have d2 : decide (1000 < t) = false := by have := HOK.t1; simp; omega
  have HY := Aside0.mk HOK.vy
  have HN := Aside0.mk HOK.vn
  have HYL := Aside0.mk (valid_lt HOK.vy).2
  have HNL := Aside0.mk (valid_lt HOK.vn).2
  have d5 : decide (topN ns y ≤ t) = false := by have := HOK.ty; simp; omega
  have d6 : decide (topN ns n ≤ t) = false := by have := HOK.tn; simp; omega
  have k5 := topR_calls S m v ns full y w HS.out HYL.out
  have k6 := topR_calls S m v ns full n w HS.out HNL.out
  obtain ⟨A, c, ev⟩ := Kd.R_slice hS.row
  subst ev
  have hln := hS.len
  generalize topN ns y = ty at d5 k5
  generalize topN ns n = tn at d6 k6
  have d7 : (y == n) = false := by simpa using hne
  have HIV : Aside0 (idsF ns (kl3 t y n) = none) := ⟨by have := idsF_key (ns := ns) HNK.out; rw [hf] at this; exact this⟩
  have HNI := Aside0.mk (findN_none hf)
  have hl4 : (ns.length : Int) < 4000 := by omega
  have HOKS := Aside0.mk hS.ok
  clear hS hr hne hf HOK
  go_enter Try.func27, Try.ntmps27
  go_wp2_with (first | (go_at_call 42; refine (validR_calls S m _ ns full _ _ HS.out).mono ?_; rintro e w' ⟨rfl, rfl⟩; first | rw [HY.out] | rw [HN.out]) | (go_at_call 47; (with_reducible refine k5.mono ?_); rintro e w' ⟨rfl, rfl⟩) | (go_at_call 47; (with_reducible refine k6.mono ?_); rintro e w' ⟨rfl, rfl⟩))
  have HBX := Aside0.mk (blk_new w (.cells #[.int .i64 t, .int .i64 y, .int .i64 n] 39))
  have HFa : Aside0 (Fr w (w.alloc (.cells #[.int .i64 t, .int .i64 y, .int .i64 n] 39)) (ownS S m (.slice A ns.length c))) := ⟨(Fr.refl _ _).alloc _⟩
  have HSa : Aside0 (StAt 67 (w.alloc (.cells #[.int .i64 t, .int .i64 y, .int .i64 n] 39)) S m (.slice A ns.length c) ns full) := ⟨HS.out.kept ((Fr.refl w (fun _ => False)).alloc _) (fun _ _ h => h)⟩
  have HLT : Aside0 (∀ k, ownS S m (.slice A ns.length c) k → k < w.heap.size) := ⟨fun k hk => HS.out.lt hk⟩
  generalize w.alloc (.cells #[.int .i64 t, .int .i64 y, .int .i64 n] 39) = wa at HBX HFa HSa ⊢
  have qb0 : wa.cell? ⟨w.heap.size, 0, none⟩ = some (.int .i64 t) := (blk_cell HBX.out 0).trans rfl
  have qb1 : wa.cell? ⟨w.heap.size, 1, none⟩ = some (.int .i64 y) := (blk_cell HBX.out 1).trans rfl
  have qb2 : wa.cell? ⟨w.heap.size, 2, none⟩ = some (.int .i64 n) := (blk_cell HBX.out 2).trans rfl
  refine start_ (n := 11) (S := fun w' => w'.cell? ⟨w.heap.size, 0, none⟩ = some (.int .i64 t) ∧ w'.cell? ⟨w.heap.size, 1, none⟩ = some (.int .i64 y) ∧ w'.cell? ⟨w.heap.size, 2, none⟩ = some (.int .i64 n) ∧ w'.cell? ⟨S, 1, none⟩ = some (.map (some m)) ∧ MapIs Try.prog 39 w' m ns.length (idsF ns)) (ds := []) #[false, false, false, false, false, false, false, false, false, false, false] (by kernel_rfl) rfl rfl ⟨qb0, qb1, qb2, HSa.out.cell1, HSa.out.ids⟩ (fun hHeld => ?_)
  refine pure_ (i := 0) (N := some 53) (v := ?_) (a' := ?_) #[true, false, false, false, false, false, false, false, false, false, false] rfl rfl (by kernel_rfl) (fun _ _ _ h => h) (Or.inl ⟨by rfl, ?_⟩) ?_ ?_
  rotate_left
  · intro w'
    go_simp
    with_reducible rfl
  rotate_left
  · simp only [Act.put, List.setIfInBounds_toArray, List.set_cons_zero, List.set_cons_succ, i64_w, i32_w]
    rfl
  refine pure_ (i := 1) (N := some 54) (v := ?_) (a' := ?_) #[true, true, false, false, false, false, false, false, false, false, false] rfl rfl (by kernel_rfl) (fun _ _ _ h => h) (Or.inl ⟨by rfl, ?_⟩) ?_ ?_
  rotate_left
  · intro w'
    go_simp
    with_reducible rfl
  rotate_left
  · simp only [Act.put, List.setIfInBounds_toArray, List.set_cons_zero, List.set_cons_succ, i64_w, i32_w]
    rfl
  refine pure_ (i := 2) (N := some 55) (v := ?_) (a' := ?_) #[true, true, true, false, false, false, false, false, false, false, false] rfl rfl (by kernel_rfl) (fun _ _ _ h => h) (Or.inl ⟨by rfl, ?_⟩) ?_ ?_
  rotate_left
  · intro w'
    go_simp
    with_reducible rfl
  rotate_left
  · simp only [Act.put, List.setIfInBounds_toArray, List.set_cons_zero, List.set_cons_succ, i64_w, i32_w]
    rfl
  refine take_ (i := 3) (N := some 56) (v := ?_) (a' := ?_) #[true, true, true, true, false, false, false, false, false, false, false] rfl rfl (by kernel_rfl) (fun _ _ _ h => h) (Or.inl ⟨by rfl, ?_⟩) hHeld ?_ ?_
  rotate_left
  · rintro w' ⟨s0, s1, s2, s3, s4⟩
    go_simp
    with_reducible rfl
  rotate_left
  · simp only [Act.put, List.setIfInBounds_toArray, List.set_cons_zero, List.set_cons_succ, i64_w, i32_w]
    rfl
  refine take_ (i := 4) (N := some 57) (v := ?_) (a' := ?_) #[true, true, true, true, true, false, false, false, false, false, false] rfl rfl (by kernel_rfl) (fun _ _ _ h => h) (Or.inl ⟨by rfl, ?_⟩) hHeld ?_ ?_
  rotate_left
  · rintro w' ⟨s0, s1, s2, s3, s4⟩
    go_simp
    with_reducible rfl
  rotate_left
  · simp only [Act.put, List.setIfInBounds_toArray, List.set_cons_zero, List.set_cons_succ, i64_w, i32_w]
    rfl
  refine take_ (i := 5) (N := some 58) (v := ?_) (a' := ?_) #[true, true, true, true, true, true, false, false, false, false, false] rfl rfl (by kernel_rfl) (fun _ _ _ h => h) (Or.inl ⟨by rfl, ?_⟩) hHeld ?_ ?_
  rotate_left
  · rintro w' ⟨s0, s1, s2, s3, s4⟩
    have hlk := MapIs.look s4 true K39 Try.underlying56 (zero3 w') (key39 HNK.out.ok.1 HNK.out.ok.2.1 HNK.out.ok.2.2)
    rw [HIV.out] at hlk
    simp only [if_true, Option.getD_none, Option.isSome_none] at hlk
    go_simp
    with_reducible rfl
  rotate_left
  · simp only [Act.put, List.setIfInBounds_toArray, List.set_cons_zero, List.set_cons_succ, i64_w, i32_w]
    rfl
  refine pure_ (i := 6) (N := some 52) (v := ?_) (a' := ?_) #[true, true, true, true, true, true, true, false, false, false, false] rfl rfl (by kernel_rfl) (fun _ _ _ h => h) (Or.inl ⟨by rfl, ?_⟩) ?_ ?_
  rotate_left
  · intro w'
    go_simp
    with_reducible rfl
  rotate_left
  · simp only [Act.put, List.setIfInBounds_toArray, List.set_cons_zero, List.set_cons_succ, i64_w, i32_w]
    rfl
  refine pure_ (i := 7) (N := some 59) (v := ?_) (a' := ?_) #[true, true, true, true, true, true, true, true, false, false, false] rfl rfl (by kernel_rfl) (fun _ _ _ h => h) (Or.inl ⟨by rfl, ?_⟩) ?_ ?_
  rotate_left
  · intro w'
    go_simp
    with_reducible rfl
  rotate_left
  · simp only [Act.put, List.setIfInBounds_toArray, List.set_cons_zero, List.set_cons_succ, i64_w, i32_w]
    rfl
  refine pure_ (i := 8) (N := some 60) (v := ?_) (a' := ?_) #[true, true, true, true, true, true, true, true, true, false, false] rfl rfl (by kernel_rfl) (fun _ _ _ h => h) (Or.inl ⟨by rfl, ?_⟩) ?_ ?_
  rotate_left
  · intro w'
    go_simp
    with_reducible rfl
  rotate_left
  · simp only [Act.put, List.setIfInBounds_toArray, List.set_cons_zero, List.set_cons_succ, i64_w, i32_w]
    rfl
  refine pure_ (i := 9) (N := some 10) (v := ?_) (a' := ?_) #[true, true, true, true, true, true, true, true, true, true, false] rfl rfl (by kernel_rfl) (fun _ _ _ h => h) (Or.inl ⟨by rfl, ?_⟩) ?_ ?_
  rotate_left
  · intro w'
    go_simp
    with_reducible rfl
  rotate_left
  · simp only [Act.put, List.setIfInBounds_toArray, List.set_cons_zero, List.set_cons_succ, i64_w, i32_w]
    rfl
  refine pure_ (i := 10) (N := some 11) (v := ?_) (a' := ?_) #[true, true, true, true, true, true, true, true, true, true, true] rfl rfl (by kernel_rfl) (fun _ _ _ h => h) (Or.inl ⟨by rfl, ?_⟩) ?_ ?_
  rotate_left
  · intro w'
    go_simp
    with_reducible rfl
  rotate_left
  · simp only [Act.put, List.setIfInBounds_toArray, List.set_cons_zero, List.set_cons_succ, i64_w, i32_w]
    rfl
  refine done_ (by kernel_rfl) ?_
  have HSb : Aside0 (StAt 67 wa.drew S m (.slice A ns.length c) ns full) := ⟨HSa.out.kept ((Fr.refl wa (fun _ => False)).drew) (fun _ _ h => h)⟩
  have HFb : Aside0 (Fr w wa.drew (ownS S m (.slice A ns.length c))) := ⟨HFa.out.drew⟩
  have HBb : Aside0 (wa.drew.heap[w.heap.size]? = some (.cells #[.int .i64 t, .int .i64 y, .int .i64 n] 39 (0, 0))) := ⟨HBX.out⟩
  generalize wa.drew = wb at HSb HFb HBb ⊢
  clear qb0 qb1 qb2 HBX HFa HSa
  have qb0 : wb.cell? ⟨w.heap.size, 0, none⟩ = some (.int .i64 t) := (blk_cell HBb.out 0).trans rfl
  have qb1 : wb.cell? ⟨w.heap.size, 1, none⟩ = some (.int .i64 y) := (blk_cell HBb.out 1).trans rfl
  have qb2 : wb.cell? ⟨w.heap.size, 2, none⟩ = some (.int .i64 n) := (blk_cell HBb.out 2).trans rfl
  have hcS0 := HSb.out.cell0
  go_wp2_with fail
  clear qb0 qb1 qb2 hcS0
  have HBS := Aside0.mk HSb.out.blk
  have HRW := Aside0.mk HSb.out.row
  have HID := Aside0.mk HSb.out.ids
  have HBX := HBb
  have HFR := HFb
  clear HSb HBb HFb
  obtain ⟨wx, hwx⟩ : ∃ wx_ : World, wx_ = wb := ⟨_, rfl⟩
  rw [← hwx] at HBS HRW HID HBX HFR ⊢
  clear hwx
  refine start_ (n := 11) (S := fun w' => w'.cell? ⟨w.heap.size, 0, none⟩ = some (.int .i64 t) ∧ w'.cell? ⟨w.heap.size, 1, none⟩ = some (.int .i64 y) ∧ w'.cell? ⟨w.heap.size, 2, none⟩ = some (.int .i64 n) ∧ w'.cell? ⟨S, 1, none⟩ = some (.map (some m)) ∧ w'.cell? ⟨S, 0, none⟩ = some (.slice A ns.length c)) (ds := [10]) #[false, false, false, false, false, false, false, false, false, false, false] (by kernel_rfl) rfl rfl ⟨(blk_cell HBX.out 0).trans rfl, (blk_cell HBX.out 1).trans rfl, (blk_cell HBX.out 2).trans rfl, (blk_cell HBS.out 1).trans rfl, (blk_cell HBS.out 0).trans rfl⟩ (fun hHeld => ?_)
  refine pure_ (i := 0) (N := some 72) (v := ?_) (a' := ?_) #[true, false, false, false, false, false, false, false, false, false, false] rfl rfl (by kernel_rfl) (fun _ _ _ h => h) (Or.inl ⟨by rfl, ?_⟩) ?_ ?_
  rotate_left
  · intro w'
    go_simp
    with_reducible rfl
  rotate_left
  · simp only [Act.put, List.setIfInBounds_toArray, List.set_cons_zero, List.set_cons_succ, i64_w, i32_w]
    rfl
  refine pure_ (i := 1) (N := some 73) (v := ?_) (a' := ?_) #[true, true, false, false, false, false, false, false, false, false, false] rfl rfl (by kernel_rfl) (fun _ _ _ h => h) (Or.inl ⟨by rfl, ?_⟩) ?_ ?_
  rotate_left
  · intro w'
    go_simp
    with_reducible rfl
  rotate_left
  · simp only [Act.put, List.setIfInBounds_toArray, List.set_cons_zero, List.set_cons_succ, i64_w, i32_w]
    rfl
  refine pure_ (i := 2) (N := some 74) (v := ?_) (a' := ?_) #[true, true, true, false, false, false, false, false, false, false, false] rfl rfl (by kernel_rfl) (fun _ _ _ h => h) (Or.inl ⟨by rfl, ?_⟩) ?_ ?_
  rotate_left
  · intro w'
    go_simp
    with_reducible rfl
  rotate_left
  · simp only [Act.put, List.setIfInBounds_toArray, List.set_cons_zero, List.set_cons_succ, i64_w, i32_w]
    rfl
  refine pure_ (i := 5) (N := some 77) (v := ?_) (a' := ?_) #[true, true, true, false, false, true, false, false, false, false, false] rfl rfl (by kernel_rfl) (fun _ _ _ h => h) (Or.inl ⟨by rfl, ?_⟩) ?_ ?_
  rotate_left
  · intro w'
    go_simp
    with_reducible rfl
  rotate_left
  · simp only [Act.put, List.setIfInBounds_toArray, List.set_cons_zero, List.set_cons_succ, i64_w, i32_w]
    rfl
  refine pure_ (i := 6) (N := some 78) (v := ?_) (a' := ?_) #[true, true, true, false, false, true, true, false, false, false, false] rfl rfl (by kernel_rfl) (fun _ _ _ h => h) (Or.inl ⟨by rfl, ?_⟩) ?_ ?_
  rotate_left
  · intro w'
    go_simp
    with_reducible rfl
  rotate_left
  · simp only [Act.put, List.setIfInBounds_toArray, List.set_cons_zero, List.set_cons_succ, i64_w, i32_w]
    rfl
  refine pure_ (i := 7) (N := some 79) (v := ?_) (a' := ?_) #[true, true, true, false, false, true, true, true, false, false, false] rfl rfl (by kernel_rfl) (fun _ _ _ h => h) (Or.inl ⟨by rfl, ?_⟩) ?_ ?_
  rotate_left
  · intro w'
    go_simp
    with_reducible rfl
  rotate_left
  · simp only [Act.put, List.setIfInBounds_toArray, List.set_cons_zero, List.set_cons_succ, i64_w, i32_w]
    rfl
  refine take_ (i := 3) (N := some 75) (v := ?_) (a' := ?_) #[true, true, true, true, false, true, true, true, false, false, false] rfl rfl (by kernel_rfl) (fun _ _ _ h => h) (Or.inl ⟨by rfl, ?_⟩) hHeld ?_ ?_
  rotate_left
  · rintro w' ⟨s0, s1, s2, s3, s4⟩
    go_simp
    with_reducible rfl
  rotate_left
  · simp only [Act.put, List.setIfInBounds_toArray, List.set_cons_zero, List.set_cons_succ, i64_w, i32_w]
    rfl
  refine take_ (i := 4) (N := some 76) (v := ?_) (a' := ?_) #[true, true, true, true, true, true, true, true, false, false, false] rfl rfl (by kernel_rfl) (fun _ _ _ h => h) (Or.inl ⟨by rfl, ?_⟩) hHeld ?_ ?_
  rotate_left
  · rintro w' ⟨s0, s1, s2, s3, s4⟩
    go_simp
    with_reducible rfl
  rotate_left
  · simp only [Act.put, List.setIfInBounds_toArray, List.set_cons_zero, List.set_cons_succ, i64_w, i32_w]
    rfl
  refine take_ (i := 8) (N := some 80) (v := ?_) (a' := ?_) #[true, true, true, true, true, true, true, true, true, false, false] rfl rfl (by kernel_rfl) (fun _ _ _ h => h) (Or.inl ⟨by rfl, ?_⟩) hHeld ?_ ?_
  rotate_left
  · rintro w' ⟨s0, s1, s2, s3, s4⟩
    go_simp
    with_reducible rfl
  rotate_left
  · simp only [Act.put, List.setIfInBounds_toArray, List.set_cons_zero, List.set_cons_succ, i64_w, i32_w]
    rfl
  refine pure_ (i := 9) (N := some 81) (v := ?_) (a' := ?_) #[true, true, true, true, true, true, true, true, true, true, false] rfl rfl (by kernel_rfl) (fun _ _ _ h => h) (Or.inl ⟨by rfl, ?_⟩) ?_ ?_
  rotate_left
  · intro w'
    go_simp
    with_reducible rfl
  rotate_left
  · simp only [Act.put, List.setIfInBounds_toArray, List.set_cons_zero, List.set_cons_succ, i64_w, i32_w]
    rfl
  refine last_ (i := 10) (N := none) #[true, true, true, true, true, true, true, true, true, true, true] rfl rfl (by kernel_rfl) (by decide) (fun K hK => ?_)
  refine mstore_step rfl (.tmp 75) (.tmp 76) (.tmp 81) 56 rfl 39 3 K39 Try.underlying56 m ns.length (idsF ns) rfl (MapIs.drew HID.out) (by unfold maxLen; omega) (.agg #[.int .i64 t, .int .i64 y, .int .i64 n]) (.int .i64 (ns.length : Int)) (kl3 t y n) rfl ?hv (key39 HNK.out.ok.1 HNK.out.ok.2.1 HNK.out.ok.2.2) rfl ?_
  case hv => first | rfl | (refine congrArg (Value.int .i64) (?_ : _ = (ns.length : Int)); first | omega | (unfold wrap64; omega) | (rw [IntWalk.i64_in _ (by omega)]; omega))
  intro w9 hm9 hg9 hz9
  have hSm : some S ≠ some m := fun e => MapIs.no_cells HID.out (by injection e with e; rw [← e]; exact HBS.out)
  have hBm : some w.heap.size ≠ some m := fun e => by injection e with e; have := HLT.out m (.inr (.inl rfl)); omega
  have hVm : ∀ k, (.slice A ns.length c : Value).ownBlock = some k → some k ≠ some m := fun k hk e => by obtain ⟨inner, hown⟩ := Kd.R_own HRW.out; exact MapIs.ne_own HID.out hown (by rw [← e]; exact hk.symm)
  have n0_ := Aside0.mk (blk_grown (show wx.drew.heap[S]? = _ from HBS.out) hg9 hSm)
  have n1_ := Aside0.mk (Kd.R_mono (ok' := fun _ => True) (Kd.R_grown (Kd.R_tight rfl (Kd.R_drew HRW.out)) hg9 (fun k hk => hVm k hk.symm)) (fun _ _ => trivial))
  have n2_ := Aside0.mk hm9
  have n3_ := Aside0.mk (blk_grown (show wx.drew.heap[w.heap.size]? = _ from HBX.out) hg9 hBm)
  have n4_ : Aside0 (Fr w w9 (ownS S m (.slice A ns.length c))) := ⟨(HFR.out.drew).trans (Fr.of_grown hg9) (fun k hk => .inl (.inr (.inl (by injection hk with hk; exact hk.symm))))⟩
  refine hK.out _ _ ?_
  clear hm9 hg9 hz9 hSm hBm hVm HBS HRW HID HBX HFR hHeld
  have HBS := n0_
  have HRW := n1_
  have HID := n2_
  have HBX := n3_
  have HFR := n4_
  clear n0_ n1_ n2_ n3_ n4_
  clear hK K
  refine done_ (by kernel_rfl) ?_
  go_wp2_with fail
  obtain ⟨wx, hwx⟩ : ∃ wx_ : World, wx_ = w9 := ⟨_, rfl⟩
  rw [← hwx] at HBS HRW HID HBX HFR ⊢
  clear hwx
  refine start_ (n := 11) (S := fun w' => w'.cell? ⟨w.heap.size, 0, none⟩ = some (.int .i64 t) ∧ w'.cell? ⟨w.heap.size, 1, none⟩ = some (.int .i64 y) ∧ w'.cell? ⟨w.heap.size, 2, none⟩ = some (.int .i64 n) ∧ w'.cell? ⟨S, 0, none⟩ = some (.slice A ns.length c) ∧ w'.heap[S]? = some (.cells #[.slice A ns.length c, .map (some m), .bool full] 67 (0, 0))) (ds := [10]) #[false, false, false, false, false, false, false, false, false, false, false] (by kernel_rfl) rfl rfl ⟨(blk_cell HBX.out 0).trans rfl, (blk_cell HBX.out 1).trans rfl, (blk_cell HBX.out 2).trans rfl, (blk_cell HBS.out 0).trans rfl, HBS.out⟩ (fun hHeld => ?_)
  refine pure_ (i := 0) (N := some 82) (v := ?_) (a' := ?_) #[true, false, false, false, false, false, false, false, false, false, false] rfl rfl (by kernel_rfl) (fun _ _ _ h => h) (Or.inl ⟨by rfl, ?_⟩) ?_ ?_
  rotate_left
  · intro w'
    go_simp
    with_reducible rfl
  rotate_left
  · simp only [Act.put, List.setIfInBounds_toArray, List.set_cons_zero, List.set_cons_succ, i64_w, i32_w]
    rfl
  refine pure_ (i := 1) (N := some 83) (v := ?_) (a' := ?_) #[true, true, false, false, false, false, false, false, false, false, false] rfl rfl (by kernel_rfl) (fun _ _ _ h => h) (Or.inl ⟨by rfl, ?_⟩) ?_ ?_
  rotate_left
  · intro w'
    go_simp
    with_reducible rfl
  rotate_left
  · simp only [Act.put, List.setIfInBounds_toArray, List.set_cons_zero, List.set_cons_succ, i64_w, i32_w]
    rfl
  refine pure_ (i := 2) (N := some 84) (v := ?_) (a' := ?_) #[true, true, true, false, false, false, false, false, false, false, false] rfl rfl (by kernel_rfl) (fun _ _ _ h => h) (Or.inl ⟨by rfl, ?_⟩) ?_ ?_
  rotate_left
  · intro w'
    go_simp
    with_reducible rfl
  rotate_left
  · simp only [Act.put, List.setIfInBounds_toArray, List.set_cons_zero, List.set_cons_succ, i64_w, i32_w]
    rfl
  refine pure_ (i := 3) (N := some 85) (v := ?_) (a' := ?_) #[true, true, true, true, false, false, false, false, false, false, false] rfl rfl (by kernel_rfl) (fun _ _ _ h => h) (Or.inl ⟨by rfl, ?_⟩) ?_ ?_
  rotate_left
  · intro w'
    go_simp
    with_reducible rfl
  rotate_left
  · simp only [Act.put, List.setIfInBounds_toArray, List.set_cons_zero, List.set_cons_succ, i64_w, i32_w]
    rfl
  refine take_ (i := 4) (N := some 86) (v := ?_) (a' := ?_) #[true, true, true, true, true, false, false, false, false, false, false] rfl rfl (by kernel_rfl) (fun _ _ _ h => h) (Or.inl ⟨by rfl, ?_⟩) hHeld ?_ ?_
  rotate_left
  · rintro w' ⟨s0, s1, s2, s3, s4⟩
    go_simp
    with_reducible rfl
  rotate_left
  · simp only [Act.put, List.setIfInBounds_toArray, List.set_cons_zero, List.set_cons_succ, i64_w, i32_w]
    rfl
  refine take_ (i := 5) (N := some 87) (v := ?_) (a' := ?_) #[true, true, true, true, true, true, false, false, false, false, false] rfl rfl (by kernel_rfl) (fun _ _ _ h => h) (Or.inl ⟨by rfl, ?_⟩) hHeld ?_ ?_
  rotate_left
  · rintro w' ⟨s0, s1, s2, s3, s4⟩
    go_simp
    with_reducible rfl
  rotate_left
  · simp only [Act.put, List.setIfInBounds_toArray, List.set_cons_zero, List.set_cons_succ, i64_w, i32_w]
    rfl
  have n0_ := Aside0.mk (show (wx.drew).heap[S]? = some (.cells #[.slice A ns.length c, .map (some m), .bool full] 67 (0, 0)) from HBS.out)
  have n1_ := Aside0.mk (Kd.R_drew HRW.out)
  have n2_ := Aside0.mk (MapIs.drew HID.out)
  have n3_ := Aside0.mk (show (wx.drew).heap[w.heap.size]? = some (.cells #[.int .i64 t, .int .i64 y, .int .i64 n] 39 (0, 0)) from HBX.out)
  have n4_ := Aside0.mk (Fr.drew HFR.out)
  generalize wx.drew = wy at n0_ n1_ n2_ n3_ n4_ hHeld ⊢
  clear HBS HRW HID HBX HFR
  have HBS := n0_
  have HRW := n1_
  have HID := n2_
  have HBX := n3_
  have HFR := n4_
  clear n0_ n1_ n2_ n3_ n4_
  refine one_ (i := 6) (N := some 88) #[true, true, true, true, true, true, true, false, false, false, false] rfl rfl (by kernel_rfl) (by decide) (fun K hK => ?_)
  refine event_step (v := .slice (some ⟨wy.heap.size, 0, none⟩) 1 1) (w1 := wy.alloc (.cells #[.int .i64 t, .int .i64 y, .int .i64 n] 39)) rfl (by first | (go_simp; done) | (go_simp; rfl)) ?_
  have HA9 : Below wy.heap.size wy (wy.alloc (.cells #[.int .i64 t, .int .i64 y, .int .i64 n] 39)) := (Below.refl _ _).alloc (Nat.le_refl _) _
  refine hK.out _ _ ⟨(HA9.cell (World.block_lt_of_cell? wy _ hHeld.1)).trans hHeld.1, (HA9.cell (World.block_lt_of_cell? wy _ hHeld.2.1)).trans hHeld.2.1, (HA9.cell (World.block_lt_of_cell? wy _ hHeld.2.2.1)).trans hHeld.2.2.1, (HA9.cell (World.block_lt_of_cell? wy _ hHeld.2.2.2.1)).trans hHeld.2.2.2.1, (HA9.block _ (blk_lt HBS.out)).trans HBS.out⟩ (fun hHeld2 => ?_)
  clear hK K
  refine norm_ (a' := ?_) ?_ ?_
  rotate_left
  · show Act.put _ (some 88) _ = _
    simp only [Act.put, List.setIfInBounds_toArray, List.set_cons_zero, List.set_cons_succ, i64_w, i32_w]
    rfl
  refine one_ (i := 7) (N := some 89) #[true, true, true, true, true, true, true, true, false, false, false] rfl rfl (by kernel_rfl) (by decide) (fun K hK => ?_)
  refine Kd.R_append_step k39 (w0 := w) 0 (by rfl) (.tmp 86) (.tmp 88) 55 39 (.agg #[(.int .i64 0), (.int .i64 0), (.int .i64 0)]) 24 rfl Try.underlying55 info39 rfl (by decide) (by omega) (.slice A ns.length c) ns ⟨t, y, n⟩ [.int .i64 t, .int .i64 y, .int .i64 n] (fun _ => True) (fun _ => False) rfl rfl (k39_mkM _ _ _ ⟨t, y, n⟩) (fun _ hk => hk.elim) (fun _ _ => trivial) HRW.out HFR.out.b0 (Nat.zero_le _) (by omega) ?_
  intro v1 w1 hr hb hg hat
  obtain ⟨A1, c1, e1⟩ := Kd.R_slice hr
  rw [List.length_append, show ([(⟨t, y, n⟩ : N39)]).length = 1 from rfl] at e1
  subst e1
  have hSne : some S ≠ (Value.slice A ns.length c).ownBlock := Kd.R_ne HRW.out HBS.out (by decide)
  have hBne : some w.heap.size ≠ (Value.slice A ns.length c).ownBlock := fun e => by have := HLT.out _ (.inr (.inr e.symm)); omega
  have hMne : some m ≠ (Value.slice A ns.length c).ownBlock := by obtain ⟨inner, hown⟩ := Kd.R_own HRW.out; exact HID.out.ne_own hown
  have n0_ := Aside0.mk (blk_grown HBS.out hg hSne)
  have n1_ := Aside0.mk hr
  have n2_ := Aside0.mk (MapIs.kept HID.out hg hMne)
  have n3_ := Aside0.mk (blk_grown HBX.out hg hBne)
  have n4_ : Aside0 (Fr w w1 (ownS S m (.slice A ns.length c))) := ⟨HFR.out.trans (Fr.of_grown hg) (fun k hk => .inl (.inr (.inr hk)))⟩
  have HAT : Aside0 ((Value.slice A1 (ns.length + 1) c1).ownBlock = (Value.slice A ns.length c).ownBlock ∨ ∃ b, (Value.slice A1 (ns.length + 1) c1).ownBlock = some b ∧ w.heap.size ≤ b) := ⟨hat.imp id (fun ⟨b, h1, h2⟩ => ⟨b, h1, Nat.le_trans HFR.out.size h2⟩)⟩
  clear hr hb hg hat hSne hBne hMne HBS HRW HID HBX HFR hHeld hHeld2
  have HBS := n0_
  have HRW := n1_
  have HID := n2_
  have HBX := n3_
  have HFR := n4_
  clear n0_ n1_ n2_ n3_ n4_
  refine hK.out _ _ ⟨(blk_cell HBX.out 0).trans rfl, (blk_cell HBX.out 1).trans rfl, (blk_cell HBX.out 2).trans rfl, (blk_cell HBS.out 0).trans rfl, HBS.out⟩ (fun hHeld3 => ?_)
  clear hK K
  refine norm_ (a' := ?_) ?_ ?_
  rotate_left
  · show Act.put _ (some 89) _ = _
    simp only [Act.put, List.setIfInBounds_toArray, List.set_cons_zero, List.set_cons_succ, i64_w, i32_w]
    rfl
  refine pure_ (i := 8) (N := some 90) (v := ?_) (a' := ?_) #[true, true, true, true, true, true, true, true, true, false, false] rfl rfl (by kernel_rfl) (fun _ _ _ h => h) (Or.inl ⟨by rfl, ?_⟩) ?_ ?_
  rotate_left
  · intro w'
    go_simp
    with_reducible rfl
  rotate_left
  · simp only [Act.put, List.setIfInBounds_toArray, List.set_cons_zero, List.set_cons_succ, i64_w, i32_w]
    rfl
  refine pure_ (i := 9) (N := some 91) (v := ?_) (a' := ?_) #[true, true, true, true, true, true, true, true, true, true, false] rfl rfl (by kernel_rfl) (fun _ _ _ h => h) (Or.inl ⟨by rfl, ?_⟩) ?_ ?_
  rotate_left
  · intro w'
    go_simp
    with_reducible rfl
  rotate_left
  · simp only [Act.put, List.setIfInBounds_toArray, List.set_cons_zero, List.set_cons_succ, i64_w, i32_w]
    rfl
  refine last_ (i := 10) (N := none) #[true, true, true, true, true, true, true, true, true, true, true] rfl rfl (by kernel_rfl) (by decide) (fun K hK => ?_)
  have hs : w1.cell? ⟨S, 0, none⟩ = some (.slice A ns.length c) := (blk_cell HBS.out 0).trans rfl
  have hfs := blk_frozen HBS.out 0
  refine skip_ (w1 := w1.setCell ⟨S, 0, none⟩ (Value.slice A1 (ns.length + 1) c1)) (by rfl) rfl ?_ ?_
  · first | (go_simp; done) | (go_simp; rfl)
  have hSv : some S ≠ (Value.slice A1 (ns.length + 1) c1).ownBlock := Kd.R_ne HRW.out HBS.out (by decide)
  have n0_ : Aside0 ((w1.setCell ⟨S, 0, none⟩ (Value.slice A1 (ns.length + 1) c1)).heap[S]? = some (.cells #[.slice A1 (ns.length + 1) c1, .map (some m), .bool full] 67 (0, 0))) := ⟨blk_put HBS.out 0 _ rfl⟩
  have n1_ : Aside0 (Kd.R k39 39 (w1.setCell ⟨S, 0, none⟩ (Value.slice A1 (ns.length + 1) c1)) 0 (fun _ => True) (.slice A1 (ns.length + 1) c1) (ns ++ [⟨t, y, n⟩])) := ⟨Kd.R_mono (Kd.R_far (Kd.R_tight rfl HRW.out) (p := ⟨S, 0, none⟩) (fun k hk e => hSv (by rw [← hk, e])) _) (fun _ _ => trivial)⟩
  have n2_ := Aside0.mk (MapIs.setCell HID.out (a := ⟨S, 0, none⟩) (fun e => MapIs.no_cells HID.out (by rw [show m = S from e]; exact HBS.out)) (Value.slice A1 (ns.length + 1) c1))
  have n3_ : Aside0 ((w1.setCell ⟨S, 0, none⟩ (Value.slice A1 (ns.length + 1) c1)).heap[w.heap.size]? = some (.cells #[.int .i64 t, .int .i64 y, .int .i64 n] 39 (0, 0))) := ⟨(Below.heap_setCell w1 ⟨S, 0, none⟩ (Value.slice A1 (ns.length + 1) c1) w.heap.size (fun e => by have := HLT.out S (.inl rfl); have : w.heap.size = S := e; omega)).trans HBX.out⟩
  have n4_ : Aside0 (Fr w (w1.setCell ⟨S, 0, none⟩ (Value.slice A1 (ns.length + 1) c1)) (ownS S m (.slice A ns.length c))) := ⟨HFR.out.setCell (.inl (.inl rfl)) _⟩
  refine hK.out _ _ ?_
  generalize w1.setCell ⟨S, 0, none⟩ (Value.slice A1 (ns.length + 1) c1) = wz at n0_ n1_ n2_ n3_ n4_ ⊢
  clear hs hfs hSv HBS HRW HID HBX HFR hHeld3
  have HBS := n0_
  have HRW := n1_
  have HID := n2_
  have HBX := n3_
  have HFR := n4_
  clear n0_ n1_ n2_ n3_ n4_
  clear hK K
  refine done_ (by kernel_rfl) ?_
  have hcz := (blk_cell HBS.out 0).trans rfl
  go_wp2
  go_ret
  refine ⟨?_, _, StAt.of_parts HBS.out HRW.out HID.out (by omega) HOKS.out HNK.out HNI.out, HFR.out, HAT.out⟩
  first | rfl | (simp; done)
end Go.Proofs.Ytihikenmknphkaa.Q
