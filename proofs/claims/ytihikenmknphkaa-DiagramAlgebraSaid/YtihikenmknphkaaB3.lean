/-
  Diagrams: the walk of DiagramAlgebra. No condition beyond those that stand in it. (Written by wip/tools/gen_alg.py.)
-/
import Derived.Test.YtihikenmknphkaaA2
import Derived.Test.YtihikenmknphkaaOA
import Derived.Test.YtihikenmknphkaaB2
import Derived.Test.YtihikenmknphkaaL2
namespace Go.Proofs.Ytihikenmknphkaa.Q
open Go Go.RowKit Go.Maps Go.Proofs.YtihikenmknphkaaW.PrintWords Go.Proofs.YtihikenmknphkaaW.PrintLast Go.Proofs.YtihikenmknphkaaW.PrintMore Go.Proofs.Ytihikenmknphkaa.M
set_option linter.unusedVariables false
set_option linter.unusedSimpArgs false

/-- the first leaves are at most 1 -/
def okP (L : List Int) (j : Int) : Bool := (L.take j.toNat).all (fun n => decide (n ≤ 1))
theorem take_rd {L : List Int} {j : Int} (h0 : 0 ≤ j) (h1 : j < (L.length : Int)) : L.take (j + 1).toNat = L.take j.toNat ++ [rd L j] := by
  have e : (j + 1).toNat = j.toNat + 1 := by omega
  rw [e, List.take_add_one, List.getElem?_eq_getElem (by omega : j.toNat < L.length)]
  congr 1
  unfold rd
  rw [List.getD_eq_getElem?_getD, List.getElem?_eq_getElem (by omega : j.toNat < L.length)]
  rfl
theorem okP_next {L : List Int} {j : Int} (h0 : 0 ≤ j) (h1 : j < (L.length : Int)) : okP L (j + 1) = (okP L j && decide (rd L j ≤ 1)) := by
  unfold okP
  rw [take_rd h0 h1, List.all_append]
  simp
theorem okP_end {ns : List N39} {x : Int} (hv : validN ns x = true) : okP (leavesF ns x) ((leavesF ns x).length : Int) = condF ns x := by
  unfold okP
  rw [cond_leaves hv, Int.toNat_natCast, List.take_length]
theorem Two.one {B : Nat} {w : World} {S S' : Nat} {ns ns' : List N39} (h : Two B w S S' ns ns') : One 58 B w S ns false := by
  obtain ⟨m, v, m', v', h1, h2, h3, h4, h5⟩ := h
  exact ⟨m, v, h1, h4⟩
theorem Two.leavesR {B : Nat} {w : World} {S S' : Nat} {ns ns' : List N39} (h : Two B w S S' ns ns') (hw : WF ns') (id : Int) : Calls Try.prog 14 #[.pointer (some ⟨S', 0, none⟩), .int .i64 id] w fun e w' => ∃ v', e = .returned v' ∧ Kd.R (Kd.int .i64) 3 w' w.heap.size (fun _ => True) v' (leavesF ns' id) ∧ Fr w w' (fun _ => False) := by
  obtain ⟨m, v, m', v', h1, h2, _⟩ := h
  exact leavesR_calls ns' id S' m' v' false w hw h2
theorem fr_box' {w w1 : World} (hf : Fr w w1 (fun _ => False)) {b : Nat} {o : Obj} (hb : w.heap[b]? = some o) : w1.heap[b]? = some o := hf.heap hb (fun e => e)
theorem fr_low' {B : Nat} {w0 w w1 : World} (hb : Below B w0 w) (hB : B ≤ w.heap.size) (hf : Fr w w1 (fun _ => False)) : Below B w0 w1 := hb.trans (hf.below hB (fun _ e => e.elim))
theorem fr_rowI {B : Nat} {w w1 : World} (hB : B ≤ w.heap.size) (hf : Fr w w1 (fun _ => False)) {v : Value} {xs : List Int} (h : Kd.R (Kd.int .i64) 3 w B (fun _ => True) v xs) : Kd.R (Kd.int .i64) 3 w1 B (fun _ => True) v xs := (Kq.of_fr (L := L3) hf hB).rowI L3_3 h
def alg.T12 : Bool × List (List Nat × List Nat) := (true, [([], []), ([0], [0]), ([1], [1]), ([2], [2]), ([], []), ([4], [4]), ([3, 5], [3, 5]), ([6], [6]), ([], [])])
def alg.B12 : List Nat := [0, 1, 3, 7, 0, 16, 63, 127, 0]
theorem alg.tab12 : rtab .any (opsOf Try.f8 12) = alg.T12 := by kernel_rfl
theorem alg.bits12 : waitsOk alg.T12.2 alg.B12 = true := by kernel_rfl
def alg.T20 : Bool × List (List Nat × List Nat) := (true, [([], []), ([], []), ([], []), ([2], [2]), ([1, 3], [1, 3]), ([0, 4], [0, 4]), ([5], [5]), ([], []), ([], []), ([], []), ([9], [9]), ([8, 10, 4], [8, 10]), ([7, 11], [7, 11]), ([12], [12]), ([], []), ([], []), ([], []), ([16], [16]), ([15, 17, 11], [15, 17]), ([14, 18], [14, 18]), ([19], [19]), ([6, 18, 0, 1, 2, 3, 4, 5, 6], [6]), ([13, 21, 0, 1, 2, 3, 4, 5, 6, 7, 8, 9, 10, 11, 12, 13, 21], [13]), ([20, 22, 0, 1, 2, 3, 4, 5, 6, 7, 8, 9, 10, 11, 12, 13, 14, 15, 16, 17, 18, 19, 20, 21, 22], [20])])
def alg.B20 : List Nat := [0, 0, 0, 4, 14, 31, 63, 0, 0, 0, 512, 1822, 3998, 8094, 0, 0, 0, 65536, 233246, 511774, 1036062, 495487, 2605055, 8388607]
theorem alg.tab20 : rtab .any (opsOf Try.f8 20) = alg.T20 := by kernel_rfl
theorem alg.bits20 : waitsOk alg.T20.2 alg.B20 = true := by kernel_rfl
set_option maxRecDepth 100000 in
set_option maxHeartbeats 16000000 in
theorem algebra_calls (w : World) (A0 : Option Addr) (c0 : Nat) (l0 : List Int) (hr0 : Kd.C (Kd.int .u8) w A0 l0.length l0) (hc0 : l0.length ≤ c0) (hby : bytesL l0) (ia : Int) (wa : (Lit.int .i64 ia).wf = true) (ja : Int) (wj : (Lit.int .i64 ja).wf = true) (ka : Int) (wk : (Lit.int .i64 ka).wf = true) :
    Calls Try.prog 8 #[.slice A0 l0.length c0, .int .i64 ia, .int .i64 ja, .int .i64 ka] w fun e w' => e = .returned (.bool true) ∧ Below w.heap.size w w' := by
  have HR := Aside0.mk hr0
  have HC := Aside0.mk hc0
  have HY := Aside0.mk hby
  clear hr0 hc0 hby wa wj wk
  go_enter Try.func8, Try.ntmps8
  go_upto_region 6 with (first
    | (go_at_call 9; refine (awake_calls w).mono ?_; rintro e w1 ⟨rfl, hb⟩; have HB := Aside0.mk hb; clear hb)
    | (go_at_call 10; refine (made_calls w w1 A0 c0 l0 90 HB.out HR.out HC.out HY.out (by omega) (by omega)).mono ?_; rintro e w2 ⟨G, S, S', A, c, ns, all, rfl, hm, hs, hv, h1, hl, hb⟩; have HMA := Aside0.mk hm; have HB2 := Aside0.mk hb; have HLE := Aside0.mk hl; have HSIX := Aside0.mk hs; have HV := Aside0.mk hv; have HM1 := Aside0.mk h1; have q3 := hm.c3; clear hm hs hv h1 hl hb))
  have q2 := HMA.out.c2
  have q0 := HMA.out.c0
  clear q3 HB HR HC HY
  have hle := HLE.out
  have HW := Aside0.mk HSIX.out.wf
  go_wp2
  go_loopw [11, 38] (fun v11 v38 wr => ∃ i : Int, v38 = .int .i64 i ∧ Aside0 (0 ≤ i ∧ i ≤ all.length) ∧ Aside0 (MkAt w.heap.size wr G S S' A c ns ns all) ∧ Aside0 (Below w.heap.size w wr) ∧ Aside0 (Kd.R (Kd.int .i64) 3 wr w.heap.size (fun _ => True) v11 ((all.take i.toNat).filter (condF ns)))) (fun v11 v38 _ => all.length - (intOf v38).toNat)
  case atStart => exact ⟨0, rfl, ⟨by omega⟩, HMA, HB2, ⟨Kd.R_nil _ _ _ _ _⟩⟩
  case round =>
    clear HMA HB2 q2 q0
    obtain ⟨i, rfl, HI, HMr, HBr, HRr⟩ := hrel
    by_cases hlt : i < (all.length : Int)
    · have p0 : 0 ≤ i := HI.out.1
      have dl : decide (i < (all.length : Int)) = true := by simpa using hlt
      obtain ⟨ad, eA, hx0, hx1⟩ := at_T32 (Kd.R_reads' HMr.out.row).2.2 i p0 hlt
      subst eA
      have HVX : Aside0 (validN ns (rd all i) = true) := ⟨HV.out _ (rd_mem p0 hlt)⟩
      have HTK := Aside0.mk (take_rd p0 hlt)
      generalize rd all i = x at hx0 hx1 HVX HTK
      obtain ⟨A11, c11, e11⟩ := Kd.R_slice HRr.out
      subst e11
      have HLL : Aside0 (((all.take i.toNat).filter (condF ns)).length ≤ 200) := ⟨by have h1 := List.length_filter_le (condF ns) (all.take i.toNat); have h2 := List.length_take_le i.toNat all; have := List.length_take_le' i.toNat all; omega⟩
      have HFL : Aside0 ((all.take (i + 1).toNat).filter (condF ns) = (all.take i.toNat).filter (condF ns) ++ (if condF ns x then [x] else [])) := ⟨by rw [HTK.out, List.filter_append]; congr 1; simp [List.filter_cons]⟩
      generalize (all.take i.toNat).filter (condF ns) = ls at HRr HLL HFL ⊢
      clear HTK
      obtain ⟨wo, rfl⟩ : ∃ wo : World, wo = wr := ⟨_, rfl⟩
      go_upto_region 12 with fail
      have hbx : ((wo.alloc (.cells #[.int .i64 x, .int .i64 x] 32)).heap[wo.heap.size]? = some (boxP x)) := by simpa [boxP] using blk_new wo (.cells #[.int .i64 x, .int .i64 x] 32)
      have hfr0 : Fr wo (wo.alloc (.cells #[.int .i64 x, .int .i64 x] 32)) (fun _ => False) := Fr.alloc (Fr.refl wo (fun _ => False)) _
      have HM0 := Aside0.mk (HMr.out.fr hfr0).drew
      have HX0 : Aside0 ((wo.alloc (.cells #[.int .i64 x, .int .i64 x] 32)).drew.heap[wo.heap.size]? = some (boxP x)) := ⟨hbx⟩
      have HL0 : Aside0 (Below w.heap.size w (wo.alloc (.cells #[.int .i64 x, .int .i64 x] 32)).drew) := ⟨(fr_low' HBr.out HMr.out.two.size hfr0).drew⟩
      have HR0 := Aside0.mk (Kd.R_drew (fr_rowI HMr.out.two.size hfr0 HRr.out))
      clear hbx hfr0 hx0 hx1
      generalize (wo.alloc (.cells #[.int .i64 x, .int .i64 x] 32)) = w2 at HM0 HX0 HL0 HR0 ⊢
      generalize wo.heap.size = b13 at HX0 ⊢
      have HLX := Aside0.mk (leavesF_length ns x)
      have HEND := Aside0.mk (okP_end HVX.out)
      refine start_ (n := 9) (S := fun w' => w'.cell? ⟨G, 1, none⟩ = some (.pointer (some ⟨S', 0, none⟩)) ∧ w'.cell? ⟨b13, 1, none⟩ = some (.int .i64 x)) (ds := [6]) #[false, false, false, false, false, false, false, false, false] (by kernel_rfl) rfl rfl ⟨HM0.out.c1, (blk_cell HX0.out 1).trans rfl⟩ (fun hHeld => ?_)
      refine with_tabW alg.tab12 alg.bits12 (fun HT_ HW_ => ?_)
      refine pure_ (i := 0) (N := some 42) (v := ?_) (a' := ?_) #[true, false, false, false, false, false, false, false, false] rfl rfl (any_of HT_.out (by kernel_rfl)) (fun _ _ _ h => h) (Or.inl ⟨by rfl, ?_⟩) ?_ ?_
      rotate_left
      · intro w'
        go_simp
        with_reducible rfl
      rotate_left
      · simp only [Act.put, List.setIfInBounds_toArray, List.set_cons_zero, List.set_cons_succ, i64_w, i32_w]
        rfl
      refine pure_ (i := 1) (N := some 43) (v := ?_) (a' := ?_) #[true, true, false, false, false, false, false, false, false] rfl rfl (any_of HT_.out (by kernel_rfl)) (fun _ _ _ h => h) (Or.inl ⟨by rfl, ?_⟩) ?_ ?_
      rotate_left
      · intro w'
        go_simp
        with_reducible rfl
      rotate_left
      · simp only [Act.put, List.setIfInBounds_toArray, List.set_cons_zero, List.set_cons_succ, i64_w, i32_w]
        rfl
      refine pure_ (i := 2) (N := some 44) (v := ?_) (a' := ?_) #[true, true, true, false, false, false, false, false, false] rfl rfl (any_of HT_.out (by kernel_rfl)) (fun _ _ _ h => h) (Or.inl ⟨by rfl, ?_⟩) ?_ ?_
      rotate_left
      · intro w'
        go_simp
        with_reducible rfl
      rotate_left
      · simp only [Act.put, List.setIfInBounds_toArray, List.set_cons_zero, List.set_cons_succ, i64_w, i32_w]
        rfl
      refine pure_ (i := 4) (N := some 46) (v := ?_) (a' := ?_) #[true, true, true, false, true, false, false, false, false] rfl rfl (any_of HT_.out (by kernel_rfl)) (fun _ _ _ h => h) (Or.inl ⟨by rfl, ?_⟩) ?_ ?_
      rotate_left
      · intro w'
        go_simp
        with_reducible rfl
      rotate_left
      · simp only [Act.put, List.setIfInBounds_toArray, List.set_cons_zero, List.set_cons_succ, i64_w, i32_w]
        rfl
      refine pure_ (i := 8) (N := some 50) (v := ?_) (a' := ?_) #[true, true, true, false, true, false, false, false, true] rfl rfl (any_of HT_.out (by kernel_rfl)) (fun _ _ _ h => h) (Or.inl ⟨by rfl, ?_⟩) ?_ ?_
      rotate_left
      · intro w'
        go_simp
        with_reducible rfl
      rotate_left
      · simp only [Act.put, List.setIfInBounds_toArray, List.set_cons_zero, List.set_cons_succ, i64_w, i32_w]
        rfl
      refine take_ (i := 3) (N := some 45) (v := ?_) (a' := ?_) #[true, true, true, true, true, false, false, false, true] rfl rfl (take_ofW HT_.out HW_.out (by kernel_rfl)) (fun _ _ _ h => h) (Or.inl ⟨by rfl, ?_⟩) hHeld ?_ ?_
      rotate_left
      · rintro w' ⟨s0, s1⟩
        go_simp
        with_reducible rfl
      rotate_left
      · simp only [Act.put, List.setIfInBounds_toArray, List.set_cons_zero, List.set_cons_succ, i64_w, i32_w]
        rfl
      refine take_ (i := 5) (N := some 47) (v := ?_) (a' := ?_) #[true, true, true, true, true, true, false, false, true] rfl rfl (take_ofW HT_.out HW_.out (by kernel_rfl)) (fun _ _ _ h => h) (Or.inl ⟨by rfl, ?_⟩) hHeld ?_ ?_
      rotate_left
      · rintro w' ⟨s0, s1⟩
        go_simp
        with_reducible rfl
      rotate_left
      · simp only [Act.put, List.setIfInBounds_toArray, List.set_cons_zero, List.set_cons_succ, i64_w, i32_w]
        rfl
      refine last_ (i := 6) (N := some 48) #[true, true, true, true, true, true, true, false, true] rfl rfl (one_of HT_.out (by kernel_rfl)) (by decide) (fun K hK => ?_)
      refine goes_ Try.func14 (by kernel_rfl) rfl #[.pointer (some ⟨S', 0, none⟩), .int .i64 x] (by rfl) rfl rfl (by (try simp only [List.map_toArray, List.map_cons, List.map_nil]); first | done | rfl) ?_
      refine (HM0.out.two.leavesR HW.out x).mono ?_
      rintro e w4 ⟨vl, rfl, hrow, hf⟩
      obtain ⟨Al, cl, el⟩ := Kd.R_slice hrow
      subst el
      refine ⟨_, rfl, ?_⟩
      have HRL := Aside0.mk hrow
      have HM4 := Aside0.mk (HM0.out.fr hf)
      have HX4 := Aside0.mk (fr_box' hf HX0.out)
      have HL4 := Aside0.mk (fr_low' HL0.out HM0.out.two.size hf)
      have HR4 := Aside0.mk (fr_rowI HM0.out.two.size hf HR0.out)
      clear hrow hf
      refine hK.out _ _ ?_
      clear hK K
      refine norm_ (a' := ?_) ?_ ?_
      rotate_left
      · show Act.put _ (some 48) _ = _
        simp only [Act.put, List.setIfInBounds_toArray, List.set_cons_zero, List.set_cons_succ, i64_w, i32_w]
        rfl
      refine pure_ (i := 7) (N := some 49) (v := ?_) (a' := ?_) #[true, true, true, true, true, true, true, true, true] rfl rfl (any_of HT_.out (by kernel_rfl)) (fun _ _ _ h => h) (Or.inl ⟨by rfl, ?_⟩) ?_ ?_
      rotate_left
      · intro w'
        go_simp
        with_reducible rfl
      rotate_left
      · simp only [Act.put, List.setIfInBounds_toArray, List.set_cons_zero, List.set_cons_succ, i64_w, i32_w]
        rfl
      refine done_ (done_of HT_.out (by kernel_rfl)) ?_
      clear hHeld HM0 HX0 HL0 HR0 HMr HBr HRr
      generalize leavesF ns x = L at HRL HLX HEND ⊢
      have hLX := HLX.out
      go_wp2
      go_loopw [14, 50] (fun v14 v50 wr => ∃ j : Int, v50 = .int .i64 j ∧ v14 = .bool (okP L j) ∧ Aside0 (0 ≤ j ∧ j ≤ L.length) ∧ wr = w4) (fun v14 v50 _ => L.length - (intOf v50).toNat)
      case atStart => exact ⟨0, rfl, rfl, ⟨by omega⟩, rfl⟩
      case round =>
        obtain ⟨j, rfl, rfl, HJ, rfl⟩ := hrel
        by_cases hj : j < (L.length : Int)
        · have j0 : 0 ≤ j := HJ.out.1
          have dj : decide (j < (L.length : Int)) = true := by simpa using hj
          obtain ⟨adl, el, hy⟩ := Kd.at_int (Kd.R_reads' HRL.out).2.2 j j0 hj
          subst el
          have HN := Aside0.mk (okP_next j0 hj)
          generalize rd L j = y at hy HN
          cases hb : okP L j with
          | true =>
            rw [hb, Bool.true_and] at HN
            by_cases hy1 : y ≤ 1
            · have dy : decide (y ≤ 1) = true := by simpa using hy1
              rw [dy] at HN
              clear hb
              go_wp2
              go_roundw
              case measure => simp [intOf]; omega
              case rel => exact ⟨j + 1, rfl, by rw [HN.out], ⟨by omega⟩, by trivial⟩
            · have dy : decide (y ≤ 1) = false := by simpa using hy1
              rw [dy] at HN
              clear hb
              go_wp2
              go_roundw
              case measure => simp [intOf]; omega
              case rel => exact ⟨j + 1, rfl, by rw [HN.out], ⟨by omega⟩, by trivial⟩
          | false =>
            rw [hb, Bool.false_and] at HN
            clear hb
            go_wp2
            go_roundw
            case measure => simp [intOf]; omega
            case rel => exact ⟨j + 1, rfl, by rw [HN.out], ⟨by omega⟩, by trivial⟩
        · have dj : decide (j < (L.length : Int)) = false := by simpa using hj
          have hjl : j = (L.length : Int) := by have := HJ.out; omega
          subst hjl
          rw [HEND.out]
          have qx : wr.cell? ⟨b13, 0, none⟩ = some (.int .i64 x) := (blk_cell HX4.out 0).trans rfl
          obtain ⟨wo2, rfl⟩ : ∃ wo2 : World, wo2 = wr := ⟨_, rfl⟩
          have HSZ := Aside0.mk HM4.out.two.size
          have hll := HLL.out
          cases hcf : condF ns x with
          | true =>
            rw [hcf, if_pos rfl] at HFL
            clear hcf
            go_wp2_with (at_builtin; refine Kd.R_append (Kd.int .i64) (w0 := wo2) w.heap.size rfl (.tmp 61) (.tmp 64) 35 3 (.int .i64 0) 8 rfl Try.underlying35 info3 rfl (by decide) (by omega) (.slice A11 ls.length c11) ls x [.int .i64 x] (fun _ => True) (fun _ => False) rfl rfl rfl (fun _ hk => hk.elim) (fun _ _ => trivial) HR4.out (Below.refl _ _) HSZ.out (by omega) ?_; intro v1 w5 hrow hb hg hat; have HR5 := Aside0.mk hrow; have HG5 := Aside0.mk hg; have HB5 := Aside0.mk hb; clear hrow hb hg hat)
            have HK5 : Aside0 (Fr wo2 w5 (fun k => (Value.slice A11 ls.length c11).ownBlock = some k)) := ⟨Fr.of_grown HG5.out⟩
            have HROW3 : Aside0 (∀ k, (Value.slice A11 ls.length c11).ownBlock = some k → ∃ (cs : Array Value) (fr : Nat × Nat), wo2.heap[k]? = some (Obj.cells cs 3 fr)) := ⟨fun k hk => row_typeI HR4.out hk⟩
            have HM5 : Aside0 (MkAt w.heap.size w5 G S S' (some ad) c ns ns all) := ⟨by
              have hbx : ∀ (k : Nat) (cs : Array Value) (t : TypeId) (fr : Nat × Nat), wo2.heap[k]? = some (Obj.cells cs t fr) → t ≠ 3 → w5.heap[k]? = some (Obj.cells cs t fr) := fun k cs t fr hk ht => (HK5.out.blk k (blk_lt hk) (fun e => by
                obtain ⟨cs', fr', e2⟩ := HROW3.out k e
                rw [e2] at hk
                injection hk with hk
                injection hk with _ e3
                exact ht e3.symm)).trans hk
              refine ⟨hbx _ _ _ _ HM4.out.blk (by decide), HM4.out.two.kept HK5.out (fun k hk => .inr ?_), ?_, HM4.out.g⟩
              · obtain ⟨cs, fr, e⟩ := HROW3.out k hk
                exact ⟨cs, 3, fr, e, L3_3⟩
              · refine Kd.R_mono (Kd.R_step (Kd.R_tight rfl HM4.out.row) (fun k ho hlt => ?_)) (fun _ _ => trivial)
                obtain ⟨cs, fr, e⟩ := MkAt.row_type HM4.out.row ho.symm
                rw [hbx _ _ _ _ e (by decide), e]⟩
            have HL5 : Aside0 (Below w.heap.size w w5) := ⟨HL4.out.trans HB5.out⟩
            go_roundw
            case measure => simp [intOf]; omega
            case rel => exact ⟨i + 1, rfl, ⟨by omega⟩, HM5, HL5, ⟨by rw [HFL.out]; exact HR5.out⟩⟩
          | false =>
            rw [hcf, if_neg (by simp), List.append_nil] at HFL
            clear hcf
            go_wp2
            go_roundw
            case measure => simp [intOf]; omega
            case rel => exact ⟨i + 1, rfl, ⟨by omega⟩, HM4, HL4, ⟨by rw [HFL.out]; exact HR4.out⟩⟩
    · have dl : decide (i < (all.length : Int)) = false := by simpa using hlt
      have hi : i = (all.length : Int) := by have := HI.out; omega
      subst hi
      rw [Int.toNat_natCast, List.take_length] at HRr
      have hpos : 0 < (all.filter (condF ns)).length := List.length_pos_of_mem (List.mem_filter.2 ⟨HM1.out, (condF_leaf HW.out).1⟩)
      have hmem : ∀ x ∈ all.filter (condF ns), condF ns x = true := fun x hx => (List.mem_filter.1 hx).2
      have hll : (all.filter (condF ns)).length ≤ 200 := Nat.le_trans (List.length_filter_le _ _) hle
      generalize all.filter (condF ns) = ls at HRr hpos hmem hll
      obtain ⟨A11, c11, e11⟩ := Kd.R_slice HRr.out
      subst e11
      obtain ⟨adl, eA, _⟩ := Kd.at_int (Kd.R_reads' HRr.out).2.2 0 (by omega) (by omega)
      subst eA
      obtain ⟨i1, hi1, a1, b1⟩ := mod_ev (a := ia) (n := (ls.length : Int)) (by omega) (by omega)
      obtain ⟨i2, hi2, a2, b2⟩ := mod_ev (a := ja) (n := (ls.length : Int)) (by omega) (by omega)
      obtain ⟨i3, hi3, a3, b3⟩ := mod_ev (a := ka) (n := (ls.length : Int)) (by omega) (by omega)
      have HI1 := Aside0.mk hi1
      have HI2 := Aside0.mk hi2
      have HI3 := Aside0.mk hi3
      have HCL : Aside0 (∀ W : World, Kd.R (Kd.int .i64) 3 W w.heap.size (fun _ => True) (.slice (some adl) ls.length c11) ls → W.cell? (adl.add i1.toNat) = some (.int .i64 (rd ls i1)) ∧ W.cell? (adl.add i2.toNat) = some (.int .i64 (rd ls i2)) ∧ W.cell? (adl.add i3.toNat) = some (.int .i64 (rd ls i3))) := ⟨fun W hW => by
        obtain ⟨d1, e1, f1⟩ := Kd.at_int (Kd.R_reads' hW).2.2 i1 a1 b1
        obtain ⟨d2, e2, f2⟩ := Kd.at_int (Kd.R_reads' hW).2.2 i2 a2 b2
        obtain ⟨d3, e3, f3⟩ := Kd.at_int (Kd.R_reads' hW).2.2 i3 a3 b3
        cases e1; cases e2; cases e3
        exact ⟨f1, f2, f3⟩⟩
      have HF := Aside0.mk (hmem _ (rd_mem a1 b1))
      have HG := Aside0.mk (hmem _ (rd_mem a2 b2))
      have HH := Aside0.mk (hmem _ (rd_mem a3 b3))
      generalize rd ls i1 = f at HCL HF
      generalize rd ls i2 = g at HCL HG
      generalize rd ls i3 = h at HCL HH
      clear hi1 hi2 hi3 hmem hlt
      obtain ⟨wo, rfl⟩ : ∃ wo : World, wo = wr := ⟨_, rfl⟩
      go_upto_region 20 with fail
      have HMd := Aside0.mk HMr.out.drew
      have HRd : Aside0 (Kd.R (Kd.int .i64) 3 wo.drew w.heap.size (fun _ => True) (.slice (some adl) ls.length c11) ls) := ⟨Kd.R_drew HRr.out⟩
      have HBd : Aside0 (Below w.heap.size w wo.drew) := ⟨HBr.out.drew⟩
      refine start_ (n := 24) (S := fun w' => w'.cell? (adl.add i1.toNat) = some (.int .i64 f) ∧ w'.cell? (adl.add i2.toNat) = some (.int .i64 g) ∧ w'.cell? (adl.add i3.toNat) = some (.int .i64 h)) (ds := []) #[false, false, false, false, false, false, false, false, false, false, false, false, false, false, false, false, false, false, false, false, false, false, false, false] (by kernel_rfl) rfl rfl ⟨(HCL.out _ HRd.out).1, (HCL.out _ HRd.out).2.1, (HCL.out _ HRd.out).2.2⟩ (fun hHeld => ?_)
      refine with_tabW alg.tab20 alg.bits20 (fun HT_ HW_ => ?_)
      refine pure_ (i := 0) (N := some 67) (v := ?_) (a' := ?_) #[true, false, false, false, false, false, false, false, false, false, false, false, false, false, false, false, false, false, false, false, false, false, false, false] rfl rfl (any_of HT_.out (by kernel_rfl)) (fun _ _ _ h => h) (Or.inl ⟨by rfl, ?_⟩) ?_ ?_
      rotate_left
      · intro w'
        go_simp
        with_reducible rfl
      rotate_left
      · simp only [Act.put, List.setIfInBounds_toArray, List.set_cons_zero, List.set_cons_succ, i64_w, i32_w]
        rfl
      refine pure_ (i := 1) (N := some 68) (v := ?_) (a' := ?_) #[true, true, false, false, false, false, false, false, false, false, false, false, false, false, false, false, false, false, false, false, false, false, false, false] rfl rfl (any_of HT_.out (by kernel_rfl)) (fun _ _ _ h => h) (Or.inl ⟨by rfl, ?_⟩) ?_ ?_
      rotate_left
      · intro w'
        go_simp
        with_reducible rfl
      rotate_left
      · simp only [Act.put, List.setIfInBounds_toArray, List.set_cons_zero, List.set_cons_succ, i64_w, i32_w]
        rfl
      refine pure_ (i := 2) (N := some 69) (v := ?_) (a' := ?_) #[true, true, true, false, false, false, false, false, false, false, false, false, false, false, false, false, false, false, false, false, false, false, false, false] rfl rfl (any_of HT_.out (by kernel_rfl)) (fun _ _ _ h => h) (Or.inl ⟨by rfl, ?_⟩) ?_ ?_
      rotate_left
      · intro w'
        go_simp
        with_reducible rfl
      rotate_left
      · simp only [Act.put, List.setIfInBounds_toArray, List.set_cons_zero, List.set_cons_succ, i64_w, i32_w]
        rfl
      refine pure_ (i := 3) (N := some 70) (v := ?_) (a' := ?_) #[true, true, true, true, false, false, false, false, false, false, false, false, false, false, false, false, false, false, false, false, false, false, false, false] rfl rfl (any_of HT_.out (by kernel_rfl)) (fun _ _ _ h => h) (Or.inl ⟨by rfl, ?_⟩) ?_ ?_
      rotate_left
      · intro w'
        go_simp
        with_reducible rfl
      rotate_left
      · simp only [Act.put, List.setIfInBounds_toArray, List.set_cons_zero, List.set_cons_succ, i64_w, i32_w]
        rfl
      refine pure_ (i := 7) (N := some 74) (v := ?_) (a' := ?_) #[true, true, true, true, false, false, false, true, false, false, false, false, false, false, false, false, false, false, false, false, false, false, false, false] rfl rfl (any_of HT_.out (by kernel_rfl)) (fun _ _ _ h => h) (Or.inl ⟨by rfl, ?_⟩) ?_ ?_
      rotate_left
      · intro w'
        go_simp
        with_reducible rfl
      rotate_left
      · simp only [Act.put, List.setIfInBounds_toArray, List.set_cons_zero, List.set_cons_succ, i64_w, i32_w]
        rfl
      refine pure_ (i := 8) (N := some 75) (v := ?_) (a' := ?_) #[true, true, true, true, false, false, false, true, true, false, false, false, false, false, false, false, false, false, false, false, false, false, false, false] rfl rfl (any_of HT_.out (by kernel_rfl)) (fun _ _ _ h => h) (Or.inl ⟨by rfl, ?_⟩) ?_ ?_
      rotate_left
      · intro w'
        go_simp
        with_reducible rfl
      rotate_left
      · simp only [Act.put, List.setIfInBounds_toArray, List.set_cons_zero, List.set_cons_succ, i64_w, i32_w]
        rfl
      refine pure_ (i := 9) (N := some 76) (v := ?_) (a' := ?_) #[true, true, true, true, false, false, false, true, true, true, false, false, false, false, false, false, false, false, false, false, false, false, false, false] rfl rfl (any_of HT_.out (by kernel_rfl)) (fun _ _ _ h => h) (Or.inl ⟨by rfl, ?_⟩) ?_ ?_
      rotate_left
      · intro w'
        go_simp
        with_reducible rfl
      rotate_left
      · simp only [Act.put, List.setIfInBounds_toArray, List.set_cons_zero, List.set_cons_succ, i64_w, i32_w]
        rfl
      refine pure_ (i := 10) (N := some 77) (v := ?_) (a' := ?_) #[true, true, true, true, false, false, false, true, true, true, true, false, false, false, false, false, false, false, false, false, false, false, false, false] rfl rfl (any_of HT_.out (by kernel_rfl)) (fun _ _ _ h => h) (Or.inl ⟨by rfl, ?_⟩) ?_ ?_
      rotate_left
      · intro w'
        go_simp
        with_reducible rfl
      rotate_left
      · simp only [Act.put, List.setIfInBounds_toArray, List.set_cons_zero, List.set_cons_succ, i64_w, i32_w]
        rfl
      refine pure_ (i := 14) (N := some 81) (v := ?_) (a' := ?_) #[true, true, true, true, false, false, false, true, true, true, true, false, false, false, true, false, false, false, false, false, false, false, false, false] rfl rfl (any_of HT_.out (by kernel_rfl)) (fun _ _ _ h => h) (Or.inl ⟨by rfl, ?_⟩) ?_ ?_
      rotate_left
      · intro w'
        go_simp
        with_reducible rfl
      rotate_left
      · simp only [Act.put, List.setIfInBounds_toArray, List.set_cons_zero, List.set_cons_succ, i64_w, i32_w]
        rfl
      refine pure_ (i := 15) (N := some 82) (v := ?_) (a' := ?_) #[true, true, true, true, false, false, false, true, true, true, true, false, false, false, true, true, false, false, false, false, false, false, false, false] rfl rfl (any_of HT_.out (by kernel_rfl)) (fun _ _ _ h => h) (Or.inl ⟨by rfl, ?_⟩) ?_ ?_
      rotate_left
      · intro w'
        go_simp
        with_reducible rfl
      rotate_left
      · simp only [Act.put, List.setIfInBounds_toArray, List.set_cons_zero, List.set_cons_succ, i64_w, i32_w]
        rfl
      refine pure_ (i := 16) (N := some 83) (v := ?_) (a' := ?_) #[true, true, true, true, false, false, false, true, true, true, true, false, false, false, true, true, true, false, false, false, false, false, false, false] rfl rfl (any_of HT_.out (by kernel_rfl)) (fun _ _ _ h => h) (Or.inl ⟨by rfl, ?_⟩) ?_ ?_
      rotate_left
      · intro w'
        go_simp
        with_reducible rfl
      rotate_left
      · simp only [Act.put, List.setIfInBounds_toArray, List.set_cons_zero, List.set_cons_succ, i64_w, i32_w]
        rfl
      refine pure_ (i := 17) (N := some 84) (v := ?_) (a' := ?_) #[true, true, true, true, false, false, false, true, true, true, true, false, false, false, true, true, true, true, false, false, false, false, false, false] rfl rfl (any_of HT_.out (by kernel_rfl)) (fun _ _ _ h => h) (Or.inl ⟨by rfl, ?_⟩) ?_ ?_
      rotate_left
      · intro w'
        go_simp
        with_reducible rfl
      rotate_left
      · simp only [Act.put, List.setIfInBounds_toArray, List.set_cons_zero, List.set_cons_succ, i64_w, i32_w]
        rfl
      refine one_ (i := 4) (N := some 71) #[true, true, true, true, true, false, false, true, true, true, true, false, false, false, true, true, true, true, false, false, false, false, false, false] rfl rfl (one_of HT_.out (by kernel_rfl)) (by decide) (fun K hK => ?_)
      refine goes_ Try.func23 (by kernel_rfl) rfl #[.int .i64 ia, .int .i64 (ls.length : Int)] (by rfl) rfl rfl (by (try simp only [List.map_toArray, List.map_cons, List.map_nil]); first | done | rfl) ?_
      refine (flagstonedraw_Mod.calls ia (ls.length : Int) i1 wo.drew HI1.out).mono ?_
      rintro e wm1 ⟨rfl, hd⟩
      refine ⟨_, rfl, ?_⟩
      have hf : Fr wo.drew wm1 (fun _ => False) := Fr.of_below hd.below _
      have HR6 := Aside0.mk (fr_rowI HMd.out.two.size hf HRd.out)
      have HB6 := Aside0.mk (fr_low' HBd.out HMd.out.two.size hf)
      have HM6 := Aside0.mk (HMd.out.fr hf)
      clear hf hd
      refine hK.out _ _ ⟨(HCL.out _ HR6.out).1, (HCL.out _ HR6.out).2.1, (HCL.out _ HR6.out).2.2⟩ (fun hHeld => ?_)
      clear hK K
      refine norm_ (a' := ?_) ?_ ?_
      rotate_left
      · show Act.put _ (some 71) _ = _
        simp only [Act.put, List.setIfInBounds_toArray, List.set_cons_zero, List.set_cons_succ, i64_w, i32_w]
        rfl
      refine pure_ (i := 5) (N := some 72) (v := ?_) (a' := ?_) #[true, true, true, true, true, true, false, true, true, true, true, false, false, false, true, true, true, true, false, false, false, false, false, false] rfl rfl (any_of HT_.out (by kernel_rfl)) (fun _ _ _ h => h) (Or.inl ⟨by rfl, ?_⟩) ?_ ?_
      rotate_left
      · intro w'
        go_simp
        with_reducible rfl
      rotate_left
      · simp only [Act.put, List.setIfInBounds_toArray, List.set_cons_zero, List.set_cons_succ, i64_w, i32_w]
        rfl
      refine take_ (i := 6) (N := some 73) (v := ?_) (a' := ?_) #[true, true, true, true, true, true, true, true, true, true, true, false, false, false, true, true, true, true, false, false, false, false, false, false] rfl rfl (take_ofW HT_.out HW_.out (by kernel_rfl)) (fun _ _ _ h => h) (Or.inl ⟨by rfl, ?_⟩) hHeld ?_ ?_
      rotate_left
      · rintro w' ⟨s0, s1, s2⟩
        go_simp
        with_reducible rfl
      rotate_left
      · simp only [Act.put, List.setIfInBounds_toArray, List.set_cons_zero, List.set_cons_succ, i64_w, i32_w]
        rfl
      refine one_ (i := 11) (N := some 78) #[true, true, true, true, true, true, true, true, true, true, true, true, false, false, true, true, true, true, false, false, false, false, false, false] rfl rfl (one_of HT_.out (by kernel_rfl)) (by decide) (fun K hK => ?_)
      refine goes_ Try.func23 (by kernel_rfl) rfl #[.int .i64 ja, .int .i64 (ls.length : Int)] (by rfl) rfl rfl (by (try simp only [List.map_toArray, List.map_cons, List.map_nil]); first | done | rfl) ?_
      refine (flagstonedraw_Mod.calls ja (ls.length : Int) i2 wm1 HI2.out).mono ?_
      rintro e wm2 ⟨rfl, hd⟩
      refine ⟨_, rfl, ?_⟩
      have hf : Fr wm1 wm2 (fun _ => False) := Fr.of_below hd.below _
      have HR7 := Aside0.mk (fr_rowI HM6.out.two.size hf HR6.out)
      have HB7 := Aside0.mk (fr_low' HB6.out HM6.out.two.size hf)
      have HM7 := Aside0.mk (HM6.out.fr hf)
      clear hf hd
      refine hK.out _ _ ⟨(HCL.out _ HR7.out).1, (HCL.out _ HR7.out).2.1, (HCL.out _ HR7.out).2.2⟩ (fun hHeld => ?_)
      clear hK K
      refine norm_ (a' := ?_) ?_ ?_
      rotate_left
      · show Act.put _ (some 78) _ = _
        simp only [Act.put, List.setIfInBounds_toArray, List.set_cons_zero, List.set_cons_succ, i64_w, i32_w]
        rfl
      refine pure_ (i := 12) (N := some 79) (v := ?_) (a' := ?_) #[true, true, true, true, true, true, true, true, true, true, true, true, true, false, true, true, true, true, false, false, false, false, false, false] rfl rfl (any_of HT_.out (by kernel_rfl)) (fun _ _ _ h => h) (Or.inl ⟨by rfl, ?_⟩) ?_ ?_
      rotate_left
      · intro w'
        go_simp
        with_reducible rfl
      rotate_left
      · simp only [Act.put, List.setIfInBounds_toArray, List.set_cons_zero, List.set_cons_succ, i64_w, i32_w]
        rfl
      refine take_ (i := 13) (N := some 80) (v := ?_) (a' := ?_) #[true, true, true, true, true, true, true, true, true, true, true, true, true, true, true, true, true, true, false, false, false, false, false, false] rfl rfl (take_ofW HT_.out HW_.out (by kernel_rfl)) (fun _ _ _ h => h) (Or.inl ⟨by rfl, ?_⟩) hHeld ?_ ?_
      rotate_left
      · rintro w' ⟨s0, s1, s2⟩
        go_simp
        with_reducible rfl
      rotate_left
      · simp only [Act.put, List.setIfInBounds_toArray, List.set_cons_zero, List.set_cons_succ, i64_w, i32_w]
        rfl
      refine one_ (i := 18) (N := some 85) #[true, true, true, true, true, true, true, true, true, true, true, true, true, true, true, true, true, true, true, false, false, false, false, false] rfl rfl (one_of HT_.out (by kernel_rfl)) (by decide) (fun K hK => ?_)
      refine goes_ Try.func23 (by kernel_rfl) rfl #[.int .i64 ka, .int .i64 (ls.length : Int)] (by rfl) rfl rfl (by (try simp only [List.map_toArray, List.map_cons, List.map_nil]); first | done | rfl) ?_
      refine (flagstonedraw_Mod.calls ka (ls.length : Int) i3 wm2 HI3.out).mono ?_
      rintro e wm3 ⟨rfl, hd⟩
      refine ⟨_, rfl, ?_⟩
      have hf : Fr wm2 wm3 (fun _ => False) := Fr.of_below hd.below _
      have HR8 := Aside0.mk (fr_rowI HM7.out.two.size hf HR7.out)
      have HB8 := Aside0.mk (fr_low' HB7.out HM7.out.two.size hf)
      have HM8 := Aside0.mk (HM7.out.fr hf)
      clear hf hd
      refine hK.out _ _ ⟨(HCL.out _ HR8.out).1, (HCL.out _ HR8.out).2.1, (HCL.out _ HR8.out).2.2⟩ (fun hHeld => ?_)
      clear hK K
      refine norm_ (a' := ?_) ?_ ?_
      rotate_left
      · show Act.put _ (some 85) _ = _
        simp only [Act.put, List.setIfInBounds_toArray, List.set_cons_zero, List.set_cons_succ, i64_w, i32_w]
        rfl
      refine pure_ (i := 19) (N := some 86) (v := ?_) (a' := ?_) #[true, true, true, true, true, true, true, true, true, true, true, true, true, true, true, true, true, true, true, true, false, false, false, false] rfl rfl (any_of HT_.out (by kernel_rfl)) (fun _ _ _ h => h) (Or.inl ⟨by rfl, ?_⟩) ?_ ?_
      rotate_left
      · intro w'
        go_simp
        with_reducible rfl
      rotate_left
      · simp only [Act.put, List.setIfInBounds_toArray, List.set_cons_zero, List.set_cons_succ, i64_w, i32_w]
        rfl
      refine pure_ (i := 21) (N := some 17) (v := ?_) (a' := ?_) #[true, true, true, true, true, true, true, true, true, true, true, true, true, true, true, true, true, true, true, true, false, true, false, false] rfl rfl (any_of HT_.out (by kernel_rfl)) (fun _ _ _ h => h) (Or.inl ⟨by rfl, ?_⟩) ?_ ?_
      rotate_left
      · intro w'
        go_simp
        with_reducible rfl
      rotate_left
      · simp only [Act.put, List.setIfInBounds_toArray, List.set_cons_zero, List.set_cons_succ, i64_w, i32_w]
        rfl
      refine pure_ (i := 22) (N := some 18) (v := ?_) (a' := ?_) #[true, true, true, true, true, true, true, true, true, true, true, true, true, true, true, true, true, true, true, true, false, true, true, false] rfl rfl (any_of HT_.out (by kernel_rfl)) (fun _ _ _ h => h) (Or.inl ⟨by rfl, ?_⟩) ?_ ?_
      rotate_left
      · intro w'
        go_simp
        with_reducible rfl
      rotate_left
      · simp only [Act.put, List.setIfInBounds_toArray, List.set_cons_zero, List.set_cons_succ, i64_w, i32_w]
        rfl
      refine take_ (i := 20) (N := some 87) (v := ?_) (a' := ?_) #[true, true, true, true, true, true, true, true, true, true, true, true, true, true, true, true, true, true, true, true, true, true, true, false] rfl rfl (take_ofW HT_.out HW_.out (by kernel_rfl)) (fun _ _ _ h => h) (Or.inl ⟨by rfl, ?_⟩) hHeld ?_ ?_
      rotate_left
      · rintro w' ⟨s0, s1, s2⟩
        go_simp
        with_reducible rfl
      rotate_left
      · simp only [Act.put, List.setIfInBounds_toArray, List.set_cons_zero, List.set_cons_succ, i64_w, i32_w]
        rfl
      refine pure_ (i := 23) (N := some 19) (v := ?_) (a' := ?_) #[true, true, true, true, true, true, true, true, true, true, true, true, true, true, true, true, true, true, true, true, true, true, true, true] rfl rfl (any_of HT_.out (by kernel_rfl)) (fun _ _ _ h => h) (Or.inl ⟨by rfl, ?_⟩) ?_ ?_
      rotate_left
      · intro w'
        go_simp
        with_reducible rfl
      rotate_left
      · simp only [Act.put, List.setIfInBounds_toArray, List.set_cons_zero, List.set_cons_succ, i64_w, i32_w]
        rfl
      refine done_ (done_of HT_.out (by kernel_rfl)) ?_
      clear hHeld HRd HMd HBd HR6 HM6 HB6 HR7 HM7 HB7 HR8
      have HS0 := Aside0.mk HM8.out.two.one
      have HBB0 := HB8
      clear HM8 HCL HMr HBr HRr
      obtain ⟨φ, Cf0⟩ := Cv.of HW.out HF.out
      obtain ⟨ψ, Cg0⟩ := Cv.of HW.out HG.out
      obtain ⟨χ, Ch0⟩ := Cv.of HW.out HH.out
      have S0 := HSIX.out
      obtain ⟨n1, xa1, h1, S1, G1, Ca11⟩ := not_step S0 (by omega) Cf0
      have Cf1 := Cf0.app S0.wf S1.wf G1
      have Cg1 := Cg0.app S0.wf S1.wf G1
      have Ch1 := Ch0.app S0.wf S1.wf G1
      have B1 := both_not S0.wf (Cf0.okI S0 (by omega)) h1
      have HB101 := Aside0.mk B1.1
      obtain ⟨n2, xa2, h2, S2, G2, Ca22⟩ := not_step S1 (by omega) Ca11
      have Cf2 := Cf1.app S1.wf S2.wf G2
      have Cg2 := Cg1.app S1.wf S2.wf G2
      have Ch2 := Ch1.app S1.wf S2.wf G2
      have B2 := both_not S1.wf (Ca11.okI S1 (by omega)) h2
      have q2 := Ca22.same S2.wf Cf2 (fun e => by show _ = _; cases φ e <;> cases ψ e <;> cases χ e <;> rfl)
      rw [q2] at B2
      have HB102 := Aside0.mk B2.1
      obtain ⟨n3, xb1, h3, S3, G3, Cb13⟩ := and_step S2 (by omega) Cf2 Cg2
      have Cf3 := Cf2.app S2.wf S3.wf G3
      have Cg3 := Cg2.app S2.wf S3.wf G3
      have Ch3 := Ch2.app S2.wf S3.wf G3
      have B3 := both_and S2.wf (Cf2.okI S2 (by omega)) (Cg2.okI S2 (by omega)) h3
      have HB103 := Aside0.mk B3.1
      obtain ⟨n4, xb2, h4, S4, G4, Cb24⟩ := and_step S3 (by omega) Cg3 Cf3
      have Cb14 := Cb13.app S3.wf S4.wf G4
      have Cf4 := Cf3.app S3.wf S4.wf G4
      have Cg4 := Cg3.app S3.wf S4.wf G4
      have Ch4 := Ch3.app S3.wf S4.wf G4
      have B4 := both_and S3.wf (Cg3.okI S3 (by omega)) (Cf3.okI S3 (by omega)) h4
      have q4 := Cb24.same S4.wf Cb14 (fun e => by show _ = _; cases φ e <;> cases ψ e <;> cases χ e <;> rfl)
      rw [q4] at B4
      have HB104 := Aside0.mk B4.1
      obtain ⟨n5, xc1, h5, S5, G5, Cc15⟩ := or_step S4 (by omega) Cf4 Cg4
      have Cf5 := Cf4.app S4.wf S5.wf G5
      have Cg5 := Cg4.app S4.wf S5.wf G5
      have Ch5 := Ch4.app S4.wf S5.wf G5
      have B5 := both_or S4.wf (Cf4.okI S4 (by omega)) (Cg4.okI S4 (by omega)) h5
      have HB105 := Aside0.mk B5.1
      obtain ⟨n6, xc2, h6, S6, G6, Cc26⟩ := not_step S5 (by omega) Cf5
      have Cc16 := Cc15.app S5.wf S6.wf G6
      have Cf6 := Cf5.app S5.wf S6.wf G6
      have Cg6 := Cg5.app S5.wf S6.wf G6
      have Ch6 := Ch5.app S5.wf S6.wf G6
      have B6 := both_not S5.wf (Cf5.okI S5 (by omega)) h6
      have HB106 := Aside0.mk B6.1
      obtain ⟨n7, xc3, h7, S7, G7, Cc37⟩ := not_step S6 (by omega) Cg6
      have Cc17 := Cc16.app S6.wf S7.wf G7
      have Cc27 := Cc26.app S6.wf S7.wf G7
      have Cf7 := Cf6.app S6.wf S7.wf G7
      have Cg7 := Cg6.app S6.wf S7.wf G7
      have Ch7 := Ch6.app S6.wf S7.wf G7
      have B7 := both_not S6.wf (Cg6.okI S6 (by omega)) h7
      have HB107 := Aside0.mk B7.1
      obtain ⟨n8, xc4, h8, S8, G8, Cc48⟩ := and_step S7 (by omega) Cc27 Cc37
      have Cc18 := Cc17.app S7.wf S8.wf G8
      have Cf8 := Cf7.app S7.wf S8.wf G8
      have Cg8 := Cg7.app S7.wf S8.wf G8
      have Ch8 := Ch7.app S7.wf S8.wf G8
      have B8 := both_and S7.wf (Cc27.okI S7 (by omega)) (Cc37.okI S7 (by omega)) h8
      have HB108 := Aside0.mk B8.1
      obtain ⟨n9, xc5, h9, S9, G9, Cc59⟩ := not_step S8 (by omega) Cc48
      have Cc19 := Cc18.app S8.wf S9.wf G9
      have Cf9 := Cf8.app S8.wf S9.wf G9
      have Cg9 := Cg8.app S8.wf S9.wf G9
      have Ch9 := Ch8.app S8.wf S9.wf G9
      have B9 := both_not S8.wf (Cc48.okI S8 (by omega)) h9
      have q9 := Cc59.same S9.wf Cc19 (fun e => by show _ = _; cases φ e <;> cases ψ e <;> cases χ e <;> rfl)
      rw [q9] at B9
      have HB109 := Aside0.mk B9.1
      obtain ⟨n10, xd1, h10, S10, G10, Cd110⟩ := or_step S9 (by omega) Cg9 Ch9
      have Cf10 := Cf9.app S9.wf S10.wf G10
      have Cg10 := Cg9.app S9.wf S10.wf G10
      have Ch10 := Ch9.app S9.wf S10.wf G10
      have B10 := both_or S9.wf (Cg9.okI S9 (by omega)) (Ch9.okI S9 (by omega)) h10
      have HB110 := Aside0.mk B10.1
      obtain ⟨n11, xd2, h11, S11, G11, Cd211⟩ := and_step S10 (by omega) Cf10 Cd110
      have Cf11 := Cf10.app S10.wf S11.wf G11
      have Cg11 := Cg10.app S10.wf S11.wf G11
      have Ch11 := Ch10.app S10.wf S11.wf G11
      have B11 := both_and S10.wf (Cf10.okI S10 (by omega)) (Cd110.okI S10 (by omega)) h11
      have HB111 := Aside0.mk B11.1
      obtain ⟨n12, xd3, h12, S12, G12, Cd312⟩ := and_step S11 (by omega) Cf11 Cg11
      have Cd212 := Cd211.app S11.wf S12.wf G12
      have Cf12 := Cf11.app S11.wf S12.wf G12
      have Cg12 := Cg11.app S11.wf S12.wf G12
      have Ch12 := Ch11.app S11.wf S12.wf G12
      have B12 := both_and S11.wf (Cf11.okI S11 (by omega)) (Cg11.okI S11 (by omega)) h12
      have HB112 := Aside0.mk B12.1
      obtain ⟨n13, xd4, h13, S13, G13, Cd413⟩ := and_step S12 (by omega) Cf12 Ch12
      have Cd213 := Cd212.app S12.wf S13.wf G13
      have Cd313 := Cd312.app S12.wf S13.wf G13
      have Cf13 := Cf12.app S12.wf S13.wf G13
      have Cg13 := Cg12.app S12.wf S13.wf G13
      have Ch13 := Ch12.app S12.wf S13.wf G13
      have B13 := both_and S12.wf (Cf12.okI S12 (by omega)) (Ch12.okI S12 (by omega)) h13
      have HB113 := Aside0.mk B13.1
      obtain ⟨n14, xd5, h14, S14, G14, Cd514⟩ := or_step S13 (by omega) Cd313 Cd413
      have Cd214 := Cd213.app S13.wf S14.wf G14
      have Cf14 := Cf13.app S13.wf S14.wf G14
      have Cg14 := Cg13.app S13.wf S14.wf G14
      have Ch14 := Ch13.app S13.wf S14.wf G14
      have B14 := both_or S13.wf (Cd313.okI S13 (by omega)) (Cd413.okI S13 (by omega)) h14
      have q14 := Cd514.same S14.wf Cd214 (fun e => by show _ = _; cases φ e <;> cases ψ e <;> cases χ e <;> rfl)
      rw [q14] at B14
      have HB114 := Aside0.mk B14.1
      obtain ⟨n15, xe1, h15, S15, G15, Ce115⟩ := not_step S14 (by omega) Cf14
      have Cf15 := Cf14.app S14.wf S15.wf G15
      have Cg15 := Cg14.app S14.wf S15.wf G15
      have Ch15 := Ch14.app S14.wf S15.wf G15
      have B15 := both_not S14.wf (Cf14.okI S14 (by omega)) h15
      have HB115 := Aside0.mk B15.1
      obtain ⟨n16, xe2, h16, S16, G16, Ce216⟩ := and_step S15 (by omega) Cf15 Ce115
      have Cf16 := Cf15.app S15.wf S16.wf G16
      have Cg16 := Cg15.app S15.wf S16.wf G16
      have Ch16 := Ch15.app S15.wf S16.wf G16
      have B16 := both_and S15.wf (Cf15.okI S15 (by omega)) (Ce115.okI S15 (by omega)) h16
      have q16 := Ce216.same S16.wf (Cv.no S16.wf) (fun e => by simp)
      rw [q16] at B16
      have HB116 := Aside0.mk B16.1
      obtain ⟨n17, xg1, h17, S17, G17, Cg117⟩ := not_step S16 (by omega) Cf16
      have Cf17 := Cf16.app S16.wf S17.wf G17
      have Cg17 := Cg16.app S16.wf S17.wf G17
      have Ch17 := Ch16.app S16.wf S17.wf G17
      have B17 := both_not S16.wf (Cf16.okI S16 (by omega)) h17
      have HB117 := Aside0.mk B17.1
      obtain ⟨n18, xg2, h18, S18, G18, Cg218⟩ := or_step S17 (by omega) Cf17 Cg117
      have Cf18 := Cf17.app S17.wf S18.wf G18
      have Cg18 := Cg17.app S17.wf S18.wf G18
      have Ch18 := Ch17.app S17.wf S18.wf G18
      have B18 := both_or S17.wf (Cf17.okI S17 (by omega)) (Cg117.okI S17 (by omega)) h18
      have q18 := Cg218.same S18.wf (Cv.yes S18.wf) (fun e => by simp)
      rw [q18] at B18
      have HB118 := Aside0.mk B18.1
      obtain ⟨n19, xk1, h19, S19, G19, Ck119⟩ := choose_step S18 (by omega) Cf18 Cg18 Ch18
      have Cf19 := Cf18.app S18.wf S19.wf G19
      have Cg19 := Cg18.app S18.wf S19.wf G19
      have Ch19 := Ch18.app S18.wf S19.wf G19
      have B19 := both_choose S18.wf (Cf18.okI S18 (by omega)) h19
      have HB119 := Aside0.mk B19.1
      obtain ⟨n20, xk2, h20, S20, G20, Ck220⟩ := and_step S19 (by omega) Cf19 Cg19
      have Cf20 := Cf19.app S19.wf S20.wf G20
      have Ch20 := Ch19.app S19.wf S20.wf G20
      have Ck120 := Ck119.app S19.wf S20.wf G20
      have B20 := both_and S19.wf (Cf19.okI S19 (by omega)) (Cg19.okI S19 (by omega)) h20
      have HB120 := Aside0.mk B20.1
      obtain ⟨n21, xk3, h21, S21, G21, Ck321⟩ := not_step S20 (by omega) Cf20
      have Ch21 := Ch20.app S20.wf S21.wf G21
      have Ck121 := Ck120.app S20.wf S21.wf G21
      have Ck221 := Ck220.app S20.wf S21.wf G21
      have B21 := both_not S20.wf (Cf20.okI S20 (by omega)) h21
      have HB121 := Aside0.mk B21.1
      obtain ⟨n22, xk4, h22, S22, G22, Ck422⟩ := and_step S21 (by omega) Ck321 Ch21
      have Ck122 := Ck121.app S21.wf S22.wf G22
      have Ck222 := Ck221.app S21.wf S22.wf G22
      have B22 := both_and S21.wf (Ck321.okI S21 (by omega)) (Ch21.okI S21 (by omega)) h22
      have HB122 := Aside0.mk B22.1
      obtain ⟨n23, xk5, h23, S23, G23, Ck523⟩ := or_step S22 (by omega) Ck222 Ck422
      have Ck123 := Ck122.app S22.wf S23.wf G23
      have B23 := both_or S22.wf (Ck222.okI S22 (by omega)) (Ck422.okI S22 (by omega)) h23
      have q23 := Ck523.same S23.wf Ck123 (fun e => by show _ = _; cases φ e <;> cases ψ e <;> cases χ e <;> rfl)
      rw [q23] at B23
      have HB123 := Aside0.mk B23.1
      have tok1 : True := trivial
      have tok2 : True := trivial
      have tok3 : True := trivial
      have tok4 : True := trivial
      have tok5 : True := trivial
      have tok6 : True := trivial
      have tok7 : True := trivial
      have tok8 : True := trivial
      have tok9 : True := trivial
      have tok10 : True := trivial
      have tok11 : True := trivial
      have tok12 : True := trivial
      have tok13 : True := trivial
      have tok14 : True := trivial
      have tok15 : True := trivial
      have tok16 : True := trivial
      have tok17 : True := trivial
      have tok18 : True := trivial
      have tok19 : True := trivial
      have tok20 : True := trivial
      have tok21 : True := trivial
      have tok22 : True := trivial
      have tok23 : True := trivial
      go_wp2_with (first
        | (go_at_call 20; have _t := tok1; clear tok1; refine (HS0.out.call (fun m v hS => HB101.out S m v false _ hS)).mono ?_; rintro e wz1 ⟨rfl, hs, hb⟩; have HS1 := Aside0.mk hs; have HBB1 := Aside0.mk (HBB0.out.trans hb); clear hs hb HS0 HBB0)
        | (go_at_call 20; have _t := tok2; clear tok2; refine (HS1.out.call (fun m v hS => HB102.out S m v false _ hS)).mono ?_; rintro e wz2 ⟨rfl, hs, hb⟩; have HS2 := Aside0.mk hs; have HBB2 := Aside0.mk (HBB1.out.trans hb); clear hs hb HS1 HBB1)
        | (go_at_call 21; have _t := tok3; clear tok3; refine (HS2.out.call (fun m v hS => HB103.out S m v false _ hS)).mono ?_; rintro e wz3 ⟨rfl, hs, hb⟩; have HS3 := Aside0.mk hs; have HBB3 := Aside0.mk (HBB2.out.trans hb); clear hs hb HS2 HBB2)
        | (go_at_call 21; have _t := tok4; clear tok4; refine (HS3.out.call (fun m v hS => HB104.out S m v false _ hS)).mono ?_; rintro e wz4 ⟨rfl, hs, hb⟩; have HS4 := Aside0.mk hs; have HBB4 := Aside0.mk (HBB3.out.trans hb); clear hs hb HS3 HBB3)
        | (go_at_call 30; have _t := tok5; clear tok5; refine (HS4.out.call (fun m v hS => HB105.out S m v false _ hS)).mono ?_; rintro e wz5 ⟨rfl, hs, hb⟩; have HS5 := Aside0.mk hs; have HBB5 := Aside0.mk (HBB4.out.trans hb); clear hs hb HS4 HBB4)
        | (go_at_call 20; have _t := tok6; clear tok6; refine (HS5.out.call (fun m v hS => HB106.out S m v false _ hS)).mono ?_; rintro e wz6 ⟨rfl, hs, hb⟩; have HS6 := Aside0.mk hs; have HBB6 := Aside0.mk (HBB5.out.trans hb); clear hs hb HS5 HBB5)
        | (go_at_call 20; have _t := tok7; clear tok7; refine (HS6.out.call (fun m v hS => HB107.out S m v false _ hS)).mono ?_; rintro e wz7 ⟨rfl, hs, hb⟩; have HS7 := Aside0.mk hs; have HBB7 := Aside0.mk (HBB6.out.trans hb); clear hs hb HS6 HBB6)
        | (go_at_call 21; have _t := tok8; clear tok8; refine (HS7.out.call (fun m v hS => HB108.out S m v false _ hS)).mono ?_; rintro e wz8 ⟨rfl, hs, hb⟩; have HS8 := Aside0.mk hs; have HBB8 := Aside0.mk (HBB7.out.trans hb); clear hs hb HS7 HBB7)
        | (go_at_call 20; have _t := tok9; clear tok9; refine (HS8.out.call (fun m v hS => HB109.out S m v false _ hS)).mono ?_; rintro e wz9 ⟨rfl, hs, hb⟩; have HS9 := Aside0.mk hs; have HBB9 := Aside0.mk (HBB8.out.trans hb); clear hs hb HS8 HBB8)
        | (go_at_call 30; have _t := tok10; clear tok10; refine (HS9.out.call (fun m v hS => HB110.out S m v false _ hS)).mono ?_; rintro e wz10 ⟨rfl, hs, hb⟩; have HS10 := Aside0.mk hs; have HBB10 := Aside0.mk (HBB9.out.trans hb); clear hs hb HS9 HBB9)
        | (go_at_call 21; have _t := tok11; clear tok11; refine (HS10.out.call (fun m v hS => HB111.out S m v false _ hS)).mono ?_; rintro e wz11 ⟨rfl, hs, hb⟩; have HS11 := Aside0.mk hs; have HBB11 := Aside0.mk (HBB10.out.trans hb); clear hs hb HS10 HBB10)
        | (go_at_call 21; have _t := tok12; clear tok12; refine (HS11.out.call (fun m v hS => HB112.out S m v false _ hS)).mono ?_; rintro e wz12 ⟨rfl, hs, hb⟩; have HS12 := Aside0.mk hs; have HBB12 := Aside0.mk (HBB11.out.trans hb); clear hs hb HS11 HBB11)
        | (go_at_call 21; have _t := tok13; clear tok13; refine (HS12.out.call (fun m v hS => HB113.out S m v false _ hS)).mono ?_; rintro e wz13 ⟨rfl, hs, hb⟩; have HS13 := Aside0.mk hs; have HBB13 := Aside0.mk (HBB12.out.trans hb); clear hs hb HS12 HBB12)
        | (go_at_call 30; have _t := tok14; clear tok14; refine (HS13.out.call (fun m v hS => HB114.out S m v false _ hS)).mono ?_; rintro e wz14 ⟨rfl, hs, hb⟩; have HS14 := Aside0.mk hs; have HBB14 := Aside0.mk (HBB13.out.trans hb); clear hs hb HS13 HBB13)
        | (go_at_call 20; have _t := tok15; clear tok15; refine (HS14.out.call (fun m v hS => HB115.out S m v false _ hS)).mono ?_; rintro e wz15 ⟨rfl, hs, hb⟩; have HS15 := Aside0.mk hs; have HBB15 := Aside0.mk (HBB14.out.trans hb); clear hs hb HS14 HBB14)
        | (go_at_call 21; have _t := tok16; clear tok16; refine (HS15.out.call (fun m v hS => HB116.out S m v false _ hS)).mono ?_; rintro e wz16 ⟨rfl, hs, hb⟩; have HS16 := Aside0.mk hs; have HBB16 := Aside0.mk (HBB15.out.trans hb); clear hs hb HS15 HBB15)
        | (go_at_call 20; have _t := tok17; clear tok17; refine (HS16.out.call (fun m v hS => HB117.out S m v false _ hS)).mono ?_; rintro e wz17 ⟨rfl, hs, hb⟩; have HS17 := Aside0.mk hs; have HBB17 := Aside0.mk (HBB16.out.trans hb); clear hs hb HS16 HBB16)
        | (go_at_call 30; have _t := tok18; clear tok18; refine (HS17.out.call (fun m v hS => HB118.out S m v false _ hS)).mono ?_; rintro e wz18 ⟨rfl, hs, hb⟩; have HS18 := Aside0.mk hs; have HBB18 := Aside0.mk (HBB17.out.trans hb); clear hs hb HS17 HBB17)
        | (go_at_call 32; have _t := tok19; clear tok19; refine (HS18.out.call (fun m v hS => HB119.out S m v false _ hS)).mono ?_; rintro e wz19 ⟨rfl, hs, hb⟩; have HS19 := Aside0.mk hs; have HBB19 := Aside0.mk (HBB18.out.trans hb); clear hs hb HS18 HBB18)
        | (go_at_call 21; have _t := tok20; clear tok20; refine (HS19.out.call (fun m v hS => HB120.out S m v false _ hS)).mono ?_; rintro e wz20 ⟨rfl, hs, hb⟩; have HS20 := Aside0.mk hs; have HBB20 := Aside0.mk (HBB19.out.trans hb); clear hs hb HS19 HBB19)
        | (go_at_call 20; have _t := tok21; clear tok21; refine (HS20.out.call (fun m v hS => HB121.out S m v false _ hS)).mono ?_; rintro e wz21 ⟨rfl, hs, hb⟩; have HS21 := Aside0.mk hs; have HBB21 := Aside0.mk (HBB20.out.trans hb); clear hs hb HS20 HBB20)
        | (go_at_call 21; have _t := tok22; clear tok22; refine (HS21.out.call (fun m v hS => HB122.out S m v false _ hS)).mono ?_; rintro e wz22 ⟨rfl, hs, hb⟩; have HS22 := Aside0.mk hs; have HBB22 := Aside0.mk (HBB21.out.trans hb); clear hs hb HS21 HBB21)
        | (go_at_call 30; have _t := tok23; clear tok23; refine (HS22.out.call (fun m v hS => HB123.out S m v false _ hS)).mono ?_; rintro e wz23 ⟨rfl, hs, hb⟩; have HS23 := Aside0.mk hs; have HBB23 := Aside0.mk (HBB22.out.trans hb); clear hs hb HS22 HBB22))
      go_ret
      exact ⟨rfl, HBB23.out⟩
end Go.Proofs.Ytihikenmknphkaa.Q
