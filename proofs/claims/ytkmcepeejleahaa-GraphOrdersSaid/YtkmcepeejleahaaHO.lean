/-
  The walk of graph.Order. No condition beyond those that stand in it.
-/
import Derived.Test.YtkmcepeejleahaaO2
namespace Go.Proofs.Ytkmcepeejleahaa.Q
open Go.RowKit Go.Proofs.YtkmcepeejleahaaW.PrintWords Go.Proofs.YtkmcepeejleahaaW.PrintLast Go.Proofs.Ytkmcepeejleahaa.M
set_option linter.unusedVariables false
set_option linter.unusedSimpArgs false

/-- the answer's row, and that nothing older has turned -/
def OrderEnd (w : World) (r : List ByteArray × Int) (e : Ending) (w' : World) : Prop := ∃ v0_ : Value, e = .returned (.tuple #[v0_, .int .i64 r.2]) ∧ Kd.R Kd.string 9 w' w.heap.size (fun _ => True) v0_ r.1 ∧ Below w.heap.size w w'

theorem SMap_bound7 {w w' : World} {b n m : Nat} {row : Option Nat} {out : List ByteArray} (h : SMap Try.prog 9 w b n (bv (doneS out))) (hg : w.grownBy w' row) (hb : some b ≠ row) (hm : out.length ≤ m) : SMap Try.prog 9 w' b m (bv (doneS out)) := by
  have h1 := SMap_bound (MapIs.kept h hg hb) Try.underlying9 out (fun x v hv => by
    unfold bv at hv
    split at hv
    · rename_i hx
      exact doneS_iff.1 hx
    · cases hv)
  exact MapIs.mono h1 hm

set_option maxHeartbeats 4000000 in
theorem order_calls (A0 : Option Addr) (c0 : Nat) (l0 : List ByteArray) (A1 : Option Addr) (c1 : Nat) (l1 : List S40) (w : World) (hr0 : Kd.C Kd.string w A0 l0.length l0) (hr1 : Kd.C k40 w A1 l1.length l1) (hl : l0.length ≤ 1000000) (hok : okL l0) (hl1 : l1.length ≤ 1000000) (hok1 : okE l1) :
    Calls Try.prog 10 #[.slice A0 l0.length c0, .slice A1 l1.length c1] w (OrderEnd w (orderF l0 l1)) := by
  have hmm := @run_makeMap Try.prog
  have HOK := Aside0.mk hok
  have HOK1 := Aside0.mk hok1
  have HR0 := Aside0.mk hr0
  have HR1 := Aside0.mk hr1
  have HF : Aside0 (orderF l0 l1 = if ((sortD l0).length : Int) ≠ ((sortL l0).length : Int) then ([], 10) else if allIn (sortL l0) l1 = true then loopO l1 l0.length (sortL l0) [] else ([], 11)) := ⟨rfl⟩
  have hsl := sortL_length l0
  have HSL := Aside0.mk hsl
  clear hok hok1 hr0 hr1 hsl
  go_enter Try.func10, Try.ntmps10
  by_cases hd : (sortD l0).length = (sortL l0).length
  · have hd2 : ((sortD l0).length != (sortL l0).length) = false := by simpa using hd
    have HE : Aside0 (orderF l0 l1 = if allIn (sortL l0) l1 = true then loopO l1 (sortL l0).length (sortL l0) [] else ([], 11)) := ⟨by rw [HF.out, if_neg (by simp [hd]), HSL.out]⟩
    clear hd HF
    go_wp2_with (first | (go_at_call 23; refine (values_calls A0 _ c0 w).mono ?_; rintro e w2 ⟨rfl, rfl⟩) | (go_at_call 22; refine (sorted_calls w.heap.size _ l0 (by omega) _ (by simp) (World.cell?_alloc_new _ _ _ _) (strs_of_C (Kd.C_alloc HR0.out _) c0)).mono ?_; rintro e w3 ⟨v3, rfl, ho, hb⟩; obtain ⟨A6, c6, e6⟩ := Kd.R_slice ho; subst e6; have HO := Aside0.mk ho; have HB3 := Aside0.mk hb; clear ho hb) | (go_at_call 25; refine (clone_row HO.out (by rw [HSL.out]; omega)).mono ?_; rintro e w4 ⟨v4, rfl, ho, hb⟩; have HO4 := Aside0.mk ho; have HB4 := Aside0.mk hb; clear ho hb) | (go_at_call 24; refine (compact_row v4 _ _ _ _ HO4.out (by rw [HSL.out]; omega)).mono ?_; rintro e w5 ⟨v5, rfl, ho, hg⟩; rw [compact_sortL] at ho; obtain ⟨A7, c7, e7⟩ := Kd.R_slice ho; subst e7; have HO5 := Aside0.mk ho; have HG5 := Aside0.mk hg; clear ho hg))
    have h1 : w.heap.size < (w.alloc (.cells #[.slice A0 l0.length c0] 23)).heap.size := by simp
    have h2 := (HB3.out.mono (Nat.le_of_lt h1))
    have h3 : Below w.heap.size w w3 := ((Below.refl _ _).alloc (Nat.le_refl _) _).trans h2
    have h4 : Below w.heap.size w w4 := h3.trans (HB4.out.mono h3.size)
    have h5 : Below w.heap.size w w5 := h4.grown HG5.out h4.size (fun k e => Nat.le_trans h3.size (Kd.R_base HO4.out k e))
    have h6 : Kd.R Kd.string 9 w5 w.heap.size (fun k => k < w5.heap.size) (.slice A6 (sortL l0).length c6) (sortL l0) := by
      have a1 := Kd.R_below (Kd.R_bound HO.out) HB4.out
      have a2 := Kd.R_grown a1 HG5.out (fun k hk e => by have := Kd.R_base HO4.out k e.symm; have := hk.2.2.1; omega)
      exact Kd.R_lower (Kd.R_mono a2 (fun k hk => by have := hk.2.2.1; have := HB4.out.size; have := HG5.out.size; omega)) (Nat.le_of_lt h1)
    have HLl : Aside0 ((sortL l0).length ≤ 1000000) := ⟨by rw [HSL.out]; exact hl⟩
    have HOKS : Aside0 (okL (sortL l0)) := ⟨fun x hx => HOK.out x (mem_sortL.1 hx)⟩
    have HMW : Aside0 (w.heap.size ≤ w5.heap.size) := ⟨h5.size⟩
    have h7 : NMap (w5.alloc (.map #[] 0)) w5.heap.size w5.heap.size 0 (fun _ => none) [] := NMap.made w5 w5.heap.size
    generalize hwl : (w5.alloc (.map #[] 0)).alloc (.cells #[.map (some w5.heap.size)] 52) = wl
    have HWL : Aside0 (Below w5.heap.size w5 wl) := ⟨by rw [← hwl]; exact ((Below.refl _ _).alloc (Nat.le_refl _) _).alloc (by simp) _⟩
    have HN0 : Aside0 (NMap wl w5.heap.size w5.heap.size 0 (fun _ => none) []) := ⟨by rw [← hwl]; exact h7.grown (World.grownBy_alloc _ _ none) (by simp) (fun s v k hs _ => by cases hs)⟩
    have HX0 : Aside0 (wl.heap[w5.heap.size + 1]? = some (.cells #[.map (some w5.heap.size)] 52 (0, 0))) := ⟨by rw [← hwl]; have := blk_new (w5.alloc (.map #[] 0)) (.cells #[.map (some w5.heap.size)] 52); simpa using this⟩
    have HBl : Aside0 (Below w.heap.size w wl) := ⟨h5.trans (HWL.out.mono HMW.out)⟩
    have HL : Aside0 (Kd.R Kd.string 9 wl w.heap.size (fun k => k < w5.heap.size) (.slice A6 (sortL l0).length c6) (sortL l0)) := ⟨Kd.R_move h6 (fun k hk => HWL.out.block k hk)⟩
    clear hwl h1 h2 h3 h4 h5 h6 h7 HO HB3 HO4 HB4 HO5 HG5 HWL hd2 HOK HSL HR0
    generalize sortL l0 = ls at HLl HOKS HL HE ⊢
    generalize w5.heap.size = M at HMW HN0 HX0 HL ⊢
    have hll := HLl.out
    go_loopw [26] (fun v26 wr => ∃ (i : Int) (p : ByteArray → Option Value), v26 = .int .i64 i ∧ Aside0 (0 ≤ i ∧ i ≤ l1.length) ∧ Aside0 (NMap wr M M i.toNat p (l1.take i.toNat)) ∧ Aside0 (allIn ls (l1.take i.toNat) = true) ∧ Aside0 (wr.heap[M + 1]? = some (.cells #[.map (some M)] 52 (0, 0))) ∧ Aside0 (Below M wl wr)) (fun v26 _ => l1.length - (intOf v26).toNat)
    case atStart => exact ⟨0, _, rfl, ⟨by omega⟩, HN0, ⟨by simp [allIn]⟩, HX0, ⟨Below.refl _ _⟩⟩
    case round =>
      obtain ⟨i, p, rfl, HI, HN, HA, HX, HB⟩ := hrel
      have HBW : Aside0 (Below w.heap.size w wr) := ⟨HBl.out.trans (HB.out.mono HMW.out)⟩
      have HLr : Aside0 (Kd.R Kd.string 9 wr w.heap.size (fun k => k < M) (.slice A6 ls.length c6) ls) := ⟨Kd.R_move HL.out (fun k hk => HB.out.block k hk)⟩
      by_cases hlt : i < l1.length
      · have p1 : 0 ≤ i := HI.out.1
        obtain ⟨ad, e, hx0, hx1⟩ := at_T40 HR1.out i p1 hlt
        cases e
        replace hx0 := (HBW.out.cell (World.block_lt_of_cell? w _ hx0)).trans hx0
        replace hx1 := (HBW.out.cell (World.block_lt_of_cell? w _ hx1)).trans hx1
        have HK := Aside0.mk (HOK1.out _ (rd_mem40 p1 hlt))
        have HMEM := Aside0.mk (rd_mem40 p1 hlt)
        have HT := Aside0.mk (take_snoc40 p1 hlt)
        have HAN : Aside0 (allIn ls (l1.take (i + 1).toNat) = (Lib.containsS ls (rd_T40 l1 i).f0 && Lib.containsS ls (rd_T40 l1 i).f1)) := ⟨by have := HA.out; unfold allIn at this ⊢; rw [HT.out, List.all_append, this]; simp⟩
        have HNO : Aside0 ((Lib.containsS ls (rd_T40 l1 i).f0 && Lib.containsS ls (rd_T40 l1 i).f1) = false → orderF l0 l1 = ([], 11)) := ⟨fun h => by
          rw [HE.out, if_neg]
          intro ha
          unfold allIn at ha
          rw [List.all_eq_true] at ha
          have := ha _ HMEM.out
          rw [h] at this
          cases this⟩
        have HWS : Aside0 (M < wr.heap.size) := ⟨HN.out.lt⟩
        obtain ⟨wo, rfl⟩ : ∃ wo : World, wo = wr := ⟨_, rfl⟩
        generalize rd_T40 l1 i = ed at hx0 hx1 HK HT HAN HNO
        have HLa : Aside0 (Kd.R Kd.string 9 (wo.alloc (.cells #[.string ed.f0, .string ed.f1] 40)) w.heap.size (fun k => k < M) (.slice A6 ls.length c6) ls) := ⟨Kd.R_alloc HLr.out _⟩
        cases hb0 : Lib.containsS ls ed.f0 with
        | false =>
          have HC0 := Aside0.mk hb0
          have HE2 : Aside0 (orderF l0 l1 = ([], 11)) := ⟨HNO.out (by rw [hb0]; rfl)⟩
          rw [HE2.out]
          clear hb0
          go_wp2_with (go_at_call 26; refine (contains_row HLa.out (by omega) _).mono ?_; rintro e w' ⟨rfl, rfl⟩; rw [HC0.out])
          go_ret2
          exact ⟨_, rfl, Kd.R_nil _ _ _ _ _, HBW.out.alloc HBW.out.size _⟩
        | true =>
          cases hb1 : Lib.containsS ls ed.f1 with
          | false =>
            have HC0 := Aside0.mk hb0
            have HC1 := Aside0.mk hb1
            have HE2 : Aside0 (orderF l0 l1 = ([], 11)) := ⟨HNO.out (by rw [hb0, hb1]; rfl)⟩
            rw [HE2.out]
            clear hb0 hb1
            go_wp2_with (go_at_call 26; refine (contains_row HLa.out (by omega) _).mono ?_; rintro e w' ⟨rfl, rfl⟩; first | rw [HC0.out] | rw [HC1.out])
            go_ret2
            exact ⟨_, rfl, Kd.R_nil _ _ _ _ _, HBW.out.alloc HBW.out.size _⟩
          | true =>
            have HC0 := Aside0.mk hb0
            have HC1 := Aside0.mk hb1
            have HAN2 : Aside0 (allIn ls (l1.take (i + 1).toNat) = true) := ⟨by rw [HAN.out, hb0, hb1]; rfl⟩
            clear hb0 hb1 HNO HAN HA
            go_wp2_with (go_at_call 26; refine (contains_row HLa.out (by omega) _).mono ?_; rintro e w' ⟨rfl, rfl⟩; first | rw [HC0.out] | rw [HC1.out])
            have HBE := Aside0.mk (World.alloc_heap_new wo (.cells #[.string ed.f0, .string ed.f1] 40))
            have HN2 : Aside0 (NMap (wo.alloc (.cells #[.string ed.f0, .string ed.f1] 40)) M M i.toNat p (l1.take i.toNat)) := ⟨HN.out.grown (World.grownBy_alloc wo _ none) (by simp) (fun s v k _ _ => by simp)⟩
            have HB2 : Aside0 (Below M wl (wo.alloc (.cells #[.string ed.f0, .string ed.f1] 40))) := ⟨HB.out.alloc (Nat.le_of_lt HWS.out) _⟩
            have HX2 : Aside0 ((wo.alloc (.cells #[.string ed.f0, .string ed.f1] 40)).heap[M + 1]? = some (.cells #[.map (some M)] 52 (0, 0))) := ⟨blk_grown HX.out (World.grownBy_alloc wo _ none) (by simp)⟩
            generalize wo.alloc (.cells #[.string ed.f0, .string ed.f1] 40) = wa at HBE HN2 HB2 HX2 ⊢
            have q0 : wa.cell? ⟨wo.heap.size, 0, none⟩ = some (.string ed.f0) := (blk_cell HBE.out 0).trans rfl
            have q1 : wa.cell? ⟨wo.heap.size, 1, none⟩ = some (.string ed.f1) := (blk_cell HBE.out 1).trans rfl
            have q2 : wa.cell? ⟨M + 1, 0, none⟩ = some (.map (some M)) := (blk_cell HX2.out 0).trans rfl
            clear hx0 hx1 HN HB HX HLa HLr
            refine start_ (n := 12) (S := fun w' => w'.cell? ⟨wo.heap.size, 0, none⟩ = some (.string ed.f0) ∧ w'.cell? ⟨wo.heap.size, 1, none⟩ = some (.string ed.f1) ∧ w'.cell? ⟨M + 1, 0, none⟩ = some (.map (some M)) ∧ SMap Try.prog 9 w' M i.toNat p) (ds := [11]) #[false, false, false, false, false, false, false, false, false, false, false, false] (by kernel_rfl) rfl rfl ⟨q0, q1, q2, HN2.out.map⟩ (fun hHeld => ?_)
            refine pure_ (i := 1) (N := some 43) (v := ?_) (a' := ?_) #[false, true, false, false, false, false, false, false, false, false, false, false] rfl rfl (by kernel_rfl) (fun _ _ _ h => h) (Or.inl ⟨by rfl, ?_⟩) ?_ ?_
            rotate_left
            · intro w'
              go_simp
              with_reducible rfl
            rotate_left
            · simp only [Act.put, List.setIfInBounds_toArray, List.set_cons_zero, List.set_cons_succ, i64_w, i32_w]
              rfl
            refine pure_ (i := 4) (N := some 46) (v := ?_) (a' := ?_) #[false, true, false, false, true, false, false, false, false, false, false, false] rfl rfl (by kernel_rfl) (fun _ _ _ h => h) (Or.inl ⟨by rfl, ?_⟩) ?_ ?_
            rotate_left
            · intro w'
              go_simp
              with_reducible rfl
            rotate_left
            · simp only [Act.put, List.setIfInBounds_toArray, List.set_cons_zero, List.set_cons_succ, i64_w, i32_w]
              rfl
            refine pure_ (i := 7) (N := some 49) (v := ?_) (a' := ?_) #[false, true, false, false, true, false, false, true, false, false, false, false] rfl rfl (by kernel_rfl) (fun _ _ _ h => h) (Or.inl ⟨by rfl, ?_⟩) ?_ ?_
            rotate_left
            · intro w'
              go_simp
              with_reducible rfl
            rotate_left
            · simp only [Act.put, List.setIfInBounds_toArray, List.set_cons_zero, List.set_cons_succ, i64_w, i32_w]
              rfl
            refine take_ (i := 0) (N := some 42) (v := ?_) (a' := ?_) #[true, true, false, false, true, false, false, true, false, false, false, false] rfl rfl (by kernel_rfl) (fun _ _ _ h => h) (Or.inl ⟨by rfl, ?_⟩) hHeld ?_ ?_
            rotate_left
            · rintro w' ⟨s0, s1, s3, s2⟩
              go_simp
              with_reducible rfl
            rotate_left
            · simp only [Act.put, List.setIfInBounds_toArray, List.set_cons_zero, List.set_cons_succ, i64_w, i32_w]
              rfl
            refine take_ (i := 3) (N := some 45) (v := ?_) (a' := ?_) #[true, true, false, true, true, false, false, true, false, false, false, false] rfl rfl (by kernel_rfl) (fun _ _ _ h => h) (Or.inl ⟨by rfl, ?_⟩) hHeld ?_ ?_
            rotate_left
            · rintro w' ⟨s0, s1, s3, s2⟩
              go_simp
              with_reducible rfl
            rotate_left
            · simp only [Act.put, List.setIfInBounds_toArray, List.set_cons_zero, List.set_cons_succ, i64_w, i32_w]
              rfl
            refine take_ (i := 2) (N := some 44) (v := ?_) (a' := ?_) #[true, true, true, true, true, false, false, true, false, false, false, false] rfl rfl (by kernel_rfl) (fun _ _ _ h => h) (Or.inl ⟨by rfl, ?_⟩) hHeld ?_ ?_
            rotate_left
            · rintro w' ⟨s0, s1, s3, s2⟩
              go_simp
              with_reducible rfl
            rotate_left
            · simp only [Act.put, List.setIfInBounds_toArray, List.set_cons_zero, List.set_cons_succ, i64_w, i32_w]
              rfl
            refine take_ (i := 5) (N := some 47) (v := ?_) (a' := ?_) #[true, true, true, true, true, true, false, true, false, false, false, false] rfl rfl (by kernel_rfl) (fun _ _ _ h => h) (Or.inl ⟨by rfl, ?_⟩) hHeld ?_ ?_
            rotate_left
            · rintro w' ⟨s0, s1, s3, s2⟩
              go_simp
              with_reducible rfl
            rotate_left
            · simp only [Act.put, List.setIfInBounds_toArray, List.set_cons_zero, List.set_cons_succ, i64_w, i32_w]
              rfl
            refine take_ (i := 8) (N := some 50) (v := ?_) (a' := ?_) #[true, true, true, true, true, true, false, true, true, false, false, false] rfl rfl (by kernel_rfl) (fun _ _ _ h => h) (Or.inl ⟨by rfl, ?_⟩) hHeld ?_ ?_
            rotate_left
            · rintro w' ⟨s0, s1, s3, s2⟩
              go_simp
              with_reducible rfl
            rotate_left
            · simp only [Act.put, List.setIfInBounds_toArray, List.set_cons_zero, List.set_cons_succ, i64_w, i32_w]
              rfl
            refine take_ (i := 6) (N := some 48) (v := ?_) (a' := ?_) #[true, true, true, true, true, true, true, true, true, false, false, false] rfl rfl (by kernel_rfl) (fun _ _ _ h => h) (Or.inl ⟨by rfl, ?_⟩) hHeld ?_ ?_
            rotate_left
            · rintro w' ⟨s0, s1, s3, s2⟩
              have hlk := SMap.look1 s2 Try.underlying9 Try.underlying52 (zero23 w') HK.out.1
              go_simp
              with_reducible rfl
            rotate_left
            · simp only [Act.put, List.setIfInBounds_toArray, List.set_cons_zero, List.set_cons_succ, i64_w, i32_w]
              rfl
            have HN3 : Aside0 (NMap wa.drew M M i.toNat p (l1.take i.toNat)) := ⟨HN2.out.drew⟩
            have HB3 : Aside0 (Below M wl wa.drew) := ⟨below_drew1 HB2.out⟩
            have HBE3 : Aside0 (wa.drew.heap[wo.heap.size]? = some (.cells #[.string ed.f0, .string ed.f1] 40 (0, 0))) := ⟨HBE.out⟩
            have HX3 : Aside0 (wa.drew.heap[M + 1]? = some (.cells #[.map (some M)] 52 (0, 0))) := ⟨HX2.out⟩
            generalize wa.drew = wb at HN3 HB3 HBE3 HX3 hHeld ⊢
            refine one_ (i := 9) (N := some 51) #[true, true, true, true, true, true, true, true, true, true, false, false] rfl rfl (by kernel_rfl) (by decide) (fun K hK => ?_)
            refine event_step (v := .slice (some ⟨wb.heap.size, 0, none⟩) 1 1) (w1 := wb.alloc (.cells #[.string ed.f1] 9)) rfl (by first | (go_simp; done) | (go_simp; rfl)) ?_
            have HA9 : Below wb.heap.size wb (wb.alloc (.cells #[.string ed.f1] 9)) := (Below.refl _ _).alloc (Nat.le_refl _) _
            refine hK.out _ _ ⟨(HA9.cell (World.block_lt_of_cell? wb _ hHeld.1)).trans hHeld.1, (HA9.cell (World.block_lt_of_cell? wb _ hHeld.2.1)).trans hHeld.2.1, (HA9.cell (World.block_lt_of_cell? wb _ hHeld.2.2.1)).trans hHeld.2.2.1, MapIs.alloc hHeld.2.2.2 _⟩ (fun hHeld2 => ?_)
            clear hK K
            refine norm_ (a' := ?_) ?_ ?_
            rotate_left
            · show Act.put _ (some 51) _ = _
              simp only [Act.put, List.setIfInBounds_toArray, List.set_cons_zero, List.set_cons_succ, i64_w, i32_w]
              rfl
            refine one_ (i := 10) (N := some 52) #[true, true, true, true, true, true, true, true, true, true, true, false] rfl rfl (by kernel_rfl) (by decide) (fun K hK => ?_)
            refine Kd.R_append_step Kd.string (w0 := wl) M (by rfl) (.tmp 48) (.tmp 51) 23 9 (.string ⟨#[]⟩) 16 rfl Try.underlying23 info9 rfl (by decide) (by omega) ((p ed.f0).getD (.slice none 0 0)) (needsL (l1.take i.toNat) ed.f0) ed.f1 [.string ed.f1] (fun k => k ≠ M) (fun _ => False) rfl rfl rfl (fun _ hk => hk.elim) (fun k hk => by have := HN3.out.lt; omega) (HN3.out.row _) HB3.out (Nat.le_of_lt HN3.out.lt) (by have := needsL_length (l1.take i.toNat) ed.f0; simp at this; omega) ?_
            intro v1 w1 hr hb hg hat
            have hbr : some M ≠ ((p ed.f0).getD (.slice none 0 0)).ownBlock := Kd.R_away (HN3.out.row _) (fun _ h => h)
            have HM1 : SMap Try.prog 9 w1 M i.toNat p := MapIs.kept HN3.out.map hg hbr
            have hbx : ∀ (o : Nat) (u : Value), wb.cell? ⟨wo.heap.size, o, none⟩ = some u → w1.cell? ⟨wo.heap.size, o, none⟩ = some u := by
              intro o u hu
              have hne := Kd.R_ne (HN3.out.row ed.f0) HBE3.out (by decide)
              exact hg.cell hu hne
            have hxb : w1.heap[M + 1]? = some (.cells #[.map (some M)] 52 (0, 0)) := blk_grown HX3.out hg (Kd.R_ne (HN3.out.row ed.f0) HX3.out (by decide))
            have HR := Aside0.mk hr
            have HBB := Aside0.mk hb
            have HG := Aside0.mk hg
            have HAT := Aside0.mk hat
            have HXB := Aside0.mk hxb
            clear hr hb hg hat hxb
            refine hK.out _ _ ⟨hbx 0 _ hHeld.1, hbx 1 _ hHeld.2.1, (blk_cell HXB.out 0).trans rfl, HM1⟩ (fun hHeld3 => ?_)
            clear hK K
            refine norm_ (a' := ?_) ?_ ?_
            rotate_left
            · show Act.put _ (some 52) _ = _
              simp only [Act.put, List.setIfInBounds_toArray, List.set_cons_zero, List.set_cons_succ, i64_w, i32_w]
              rfl
            refine last_ (i := 11) (N := none) #[true, true, true, true, true, true, true, true, true, true, true, true] rfl rfl (by kernel_rfl) (by decide) (fun K hK => ?_)
            refine sstore_step rfl (.tmp 42) (.tmp 44) (.tmp 52) 52 rfl 9 23 Try.underlying9 Try.underlying52 M i.toNat p rfl HM1 (by unfold maxLen; omega) ed.f0 v1 rfl rfl HK.out.1 ?_
            intro w2 hm2 hg2 hz2
            have HN4 := Aside0.mk (HN3.out.step HR.out HG.out HAT.out hm2 hg2)
            have HB4 := Aside0.mk (HBB.out.grown hg2 (Nat.le_of_lt HM1.lt) (fun k e => by cases e; exact Nat.le_refl _))
            have HX4 : Aside0 (w2.heap[M + 1]? = some (.cells #[.map (some M)] 52 (0, 0))) := ⟨blk_grown HXB.out hg2 (by simp)⟩
            clear hm2 hg2 hz2
            refine hK.out _ _ ?_
            clear hK K
            refine done_ (by kernel_rfl) ?_
            go_wp2
            go_roundw
            case rel => exact ⟨i + 1, _, rfl, ⟨by omega⟩, ⟨by rw [HT.out, show (i + 1).toNat = i.toNat + 1 by omega]; exact HN4.out⟩, HAN2, HX4, HB4⟩
            case measure => simp [intOf]; omega
      · have hi : i = l1.length := by have := HI.out; omega
        have HN1 : Aside0 (NMap wr M M l1.length p l1) := ⟨by have := HN.out; rw [hi] at this; simpa using this⟩
        have HE1 : Aside0 (orderF l0 l1 = loopO l1 ls.length ls []) := ⟨by
          have := HA.out
          rw [hi] at this
          rw [HE.out, if_pos (by simpa using this)]⟩
        have HRL : Aside0 (∀ s v k, p s = some v → v.ownBlock = some k → M ≤ k ∧ k < wr.heap.size) := ⟨fun s v k hs hk => ⟨Kd.R_base (HN1.out.rows s v hs).1 k hk, Kd.R_lt (HN1.out.rows s v hs).1 k hk⟩⟩
        have HMD : Aside0 (M + 1 < wr.heap.size) := ⟨blk_lt HX.out⟩
        clear hi HN HA HE HB
        go_wp2_with fail
        generalize hD : wr.heap.size = D at HRL HMD ⊢
        generalize hwm : (wr.alloc (.map #[] 0)).alloc (.cells #[.map (some D)] 53) = wm
        have HWM : Aside0 (Below wr.heap.size wr wm) := ⟨by rw [← hwm]; exact ((Below.refl _ _).alloc (Nat.le_refl _) _).alloc (by simp) _⟩
        have HNm : Aside0 (NMap wm M M l1.length p l1) := ⟨HN1.out.below HWM.out⟩
        have HSm : Aside0 (SMap Try.prog 9 wm D ls.length (bv (doneS []))) := ⟨by rw [← hwm, ← hD]; exact ((SMap.made wr Try.prog 9).alloc _).mono (Nat.zero_le _)⟩
        have HXm : Aside0 (wm.heap[M + 1]? = some (.cells #[.map (some M)] 52 (0, 0))) := ⟨(HWM.out.block _ (by have := HMD.out; omega)).trans HX.out⟩
        have HYm : Aside0 (wm.heap[D + 1]? = some (.cells #[.map (some D)] 53 (0, 0))) := ⟨by rw [← hwm, ← hD]; have := blk_new (wr.alloc (.map #[] 0)) (.cells #[.map (some wr.heap.size)] 53); simpa using this⟩
        have HBm : Aside0 (Below w.heap.size w wm) := ⟨HBW.out.trans (HWM.out.mono HBW.out.size)⟩
        have HLm : Aside0 (Kd.R Kd.string 9 wm w.heap.size (fun k => k < M) (.slice A6 ls.length c6) ls) := ⟨Kd.R_below HLr.out HWM.out⟩
        have HSZ : Aside0 (D + 2 ≤ wm.heap.size) := ⟨by rw [← hwm, ← hD]; simp⟩
        have HWD : Aside0 (w.heap.size ≤ D) := ⟨by rw [← hD]; exact HBW.out.size⟩
        clear hwm hD HWM HN1 HX HBW HLr HL HN0 HX0 HBl
        go_loopg [6, 10] ls.length (fun kq v6 v10 wr => ∃ (lf out : List ByteArray) (A : Option Addr) (c : Nat), v6 = .slice A lf.length c ∧ Aside0 (kq = lf.length ∧ out.length + lf.length = ls.length) ∧ Aside0 (orderF l0 l1 = loopO l1 lf.length lf out) ∧ Aside0 (okL lf) ∧ Aside0 (NMap wr M M l1.length p l1) ∧ Aside0 (SMap Try.prog 9 wr D ls.length (bv (doneS out))) ∧ Aside0 (Kd.R Kd.string 9 wr w.heap.size (fun k => k < M) v6 lf) ∧ Aside0 (Kd.R Kd.string 9 wr w.heap.size (fun k => D + 2 ≤ k) v10 out) ∧ Aside0 (wr.heap[M + 1]? = some (.cells #[.map (some M)] 52 (0, 0))) ∧ Aside0 (wr.heap[D + 1]? = some (.cells #[.map (some D)] 53 (0, 0))) ∧ Aside0 (Below w.heap.size w wr))
        case atStart => exact ⟨ls, [], A6, c6, rfl, ⟨rfl, by simp⟩, HE1, HOKS, HNm, HSm, HLm, ⟨Kd.R_nil _ _ _ _ _⟩, HXm, HYm, HBm⟩
        case round =>
          clear HE1 HOKS HNm HSm HLm HXm HYm HBm
          obtain ⟨lf, out, A, c, rfl, HK, HE, HOKS, HN, HS, HL, HO, HX, HY, HB⟩ := hrel
          rcases Nat.eq_zero_or_pos lf.length with h0 | h0
          · have hlf : lf = [] := List.eq_nil_of_length_eq_zero h0
            subst hlf
            have HE2 : Aside0 (orderF l0 l1 = (out, 0)) := ⟨by rw [HE.out]; rfl⟩
            clear HE h0
            go_wp2
            go_ret2
            rw [HE2.out]
            exact ⟨_, rfl, Kd.R_mono HO.out (fun _ _ => trivial), HB.out⟩
          · obtain ⟨g, cap, e, hgb, hgl, _⟩ := Kd.R_form HL.out h0
            cases e
            have hbn : wr.cell? ⟨M + 1, 0, none⟩ = some (.map (some M)) := (blk_cell HX.out 0).trans rfl
            have hbd : wr.cell? ⟨D + 1, 0, none⟩ = some (.map (some D)) := (blk_cell HY.out 0).trans rfl
            have hl2 : lf.length ≤ 1000000 := by have := HK.out; omega
            have HGM : Aside0 (g < M ∧ w.heap.size ≤ g) := ⟨HL.out.1 g (by simp [Value.ownBlock]), hgb⟩
            have k1 := indexFunc_calls 28 #[.pointer (some ⟨M + 1, 0, none⟩), .pointer (some ⟨D + 1, 0, none⟩)] enters28 (readyB l1 (doneS out)) (some ⟨g, 0, none⟩) c lf wr (Kd.R_reads' HL.out).2.2 (by omega) (fun x hx => order1_calls x (M + 1) (D + 1) M D _ _ M p l1 (doneS out) wr hbn hbd HN.out HS.out (HOKS.out x hx) HOK1.out hl1)
            have HLO : Aside0 (loopO l1 lf.length lf out = match lf.findIdx? (readyB l1 (doneS out)) with | none => ([], 12) | some i => loopO l1 (lf.length - 1) (lf.eraseIdx i) (out ++ [lf.getD i ByteArray.empty])) := ⟨by obtain ⟨n, hn⟩ : ∃ n, lf.length = n + 1 := ⟨lf.length - 1, by omega⟩; rw [hn]; rfl⟩
            unfold idxF at k1
            cases hfi : lf.findIdx? (readyB l1 (doneS out)) with
            | none =>
              rw [hfi] at k1
              have HE2 : Aside0 (orderF l0 l1 = ([], 12)) := ⟨by rw [HE.out, HLO.out, hfi]⟩
              rw [HE2.out]
              clear hfi HLO HE hbn hbd
              go_wp2_with (go_at_call 27; refine k1.mono ?_; rintro e w' ⟨rfl, rfl⟩)
              go_ret2
              exact ⟨_, rfl, Kd.R_nil _ _ _ _ _, HB.out⟩
            | some j =>
              rw [hfi] at k1
              have HE2 : Aside0 (orderF l0 l1 = loopO l1 (lf.length - 1) (lf.eraseIdx j) (out ++ [lf.getD j ByteArray.empty])) := ⟨by rw [HE.out, HLO.out, hfi]⟩
              have hj : j < lf.length := by rw [List.findIdx?_eq_some_iff_getElem] at hfi; exact hfi.1
              have HXO : Aside0 (okS (lf.getD j ByteArray.empty)) := ⟨by rw [List.getD_eq_getElem?_getD, List.getElem?_eq_getElem hj]; exact HOKS.out _ (List.getElem_mem hj)⟩
              have hcx := (Kd.R_cell ByteArray.empty HL.out (j : Int) (by omega) (by omega)).1
              have hrx : rdOf ByteArray.empty lf (j : Int) = lf.getD j ByteArray.empty := by simp [rdOf]
              rw [hrx] at hcx
              simp only [Int.toNat_natCast] at hcx
              have HEL : Aside0 ((lf.eraseIdx j).length = lf.length - 1) := ⟨by rw [List.length_eraseIdx_of_lt hj]⟩
              have HOE : Aside0 (okL (lf.eraseIdx j)) := ⟨fun x hx => HOKS.out x (List.mem_of_mem_eraseIdx hx)⟩
              clear hfi HLO HE hbn hbd hrx HOKS
              generalize lf.getD j ByteArray.empty = x at HE2 HXO hcx
              have HOL : Aside0 (out.length ≤ 1000000) := ⟨by have := HK.out; omega⟩
              have HDW : Aside0 (D + 1 < wr.heap.size) := ⟨blk_lt HY.out⟩
              go_wp2_with (first | (go_at_call 27; refine k1.mono ?_; rintro e w' ⟨rfl, rfl⟩) | (at_builtin; refine Kd.R_append Kd.string (w0 := w) w.heap.size rfl (.tmp 63) (.tmp 68) 23 9 (.string ⟨#[]⟩) 16 rfl Try.underlying23 info9 rfl (by decide) (by omega) u10 out x [.string x] (fun k => D + 2 ≤ k) (fun _ => False) rfl ?aX ?aP (fun _ hk => hk.elim) ?aF ?aO ?aB ?aS ?aL ?_))
              case aX => first | rfl | (go_simp; done)
              case aP => rfl
              case aF => intro q hq; have := HDW.out; omega
              case aO => exact HO.out
              case aB => exact HB.out
              case aS => exact HB.out.size
              case aL => have h1 := HOL.out; omega
              intro v1 w4 ho hb hg hat
              have hbr : ∀ k, k < D + 2 → some k ≠ u10.ownBlock := fun k hk e => by have := HO.out.1 k e.symm; omega
              have HO4 := Aside0.mk ho
              have HB4 := Aside0.mk hb
              have HN4 : Aside0 (NMap w4 M M l1.length p l1) := ⟨HN.out.grown hg (hbr M (by have := HMD.out; omega)) (fun s v k hs hk => hbr k (by have := HRL.out s v k hs hk; omega))⟩
              have HS4 : Aside0 (SMap Try.prog 9 w4 D ls.length (bv (doneS out))) := ⟨HS.out.kept hg (hbr D (by omega))⟩
              have HL4 : Aside0 (Kd.R Kd.string 9 w4 w.heap.size (fun k => k < M) (.slice (some ⟨g, 0, none⟩) lf.length c) lf) := ⟨Kd.R_grown HL.out hg (fun k hk => hbr k (by have := HMD.out; omega))⟩
              have HX4 : Aside0 (w4.heap[M + 1]? = some (.cells #[.map (some M)] 52 (0, 0))) := ⟨blk_grown HX.out hg (hbr _ (by have := HMD.out; omega))⟩
              have HY4 : Aside0 (w4.heap[D + 1]? = some (.cells #[.map (some D)] 53 (0, 0))) := ⟨blk_grown HY.out hg (hbr _ (by omega))⟩
              have hcx4 : w4.cell? ⟨g, j, none⟩ = some (.string x) := hg.cell hcx (hbr g (by have := HGM.out; have := HMD.out; omega))
              have hby4 : w4.cell? ⟨D + 1, 0, none⟩ = some (.map (some D)) := (blk_cell HY4.out 0).trans rfl
              clear ho hb hg hat hcx k1 HN HS HL HX HY HO HB hbr
              go_wp2_with fail
              refine start_ (n := 6) (S := fun w' => w'.cell? ⟨D + 1, 0, none⟩ = some (.map (some D)) ∧ w'.cell? ⟨g, j, none⟩ = some (.string x) ∧ SMap Try.prog 9 w' D ls.length (bv (doneS out))) (ds := [5]) #[false, false, false, false, false, false] (by kernel_rfl) rfl rfl ⟨hby4, hcx4, HS4.out⟩ (fun hHeld => ?_)
              refine pure_ (i := 1) (N := some 71) (v := ?_) (a' := ?_) #[false, true, false, false, false, false] rfl rfl (by kernel_rfl) (fun _ _ _ h => h) (Or.inl ⟨by rfl, ?_⟩) ?_ ?_
              rotate_left
              · intro w'
                go_simp
                with_reducible rfl
              rotate_left
              · simp only [Act.put, List.setIfInBounds_toArray, List.set_cons_zero, List.set_cons_succ, i64_w, i32_w]
                rfl
              refine pure_ (i := 2) (N := some 72) (v := ?_) (a' := ?_) #[false, true, true, false, false, false] rfl rfl (by kernel_rfl) (fun _ _ _ h => h) (Or.inl ⟨by rfl, ?_⟩) ?_ ?_
              rotate_left
              · intro w'
                go_simp
                with_reducible rfl
              rotate_left
              · simp only [Act.put, List.setIfInBounds_toArray, List.set_cons_zero, List.set_cons_succ, i64_w, i32_w]
                rfl
              refine pure_ (i := 3) (N := some 73) (v := ?_) (a' := ?_) #[false, true, true, true, false, false] rfl rfl (by kernel_rfl) (fun _ _ _ h => h) (Or.inl ⟨by rfl, ?_⟩) ?_ ?_
              rotate_left
              · intro w'
                go_simp
                with_reducible rfl
              rotate_left
              · simp only [Act.put, List.setIfInBounds_toArray, List.set_cons_zero, List.set_cons_succ, i64_w, i32_w]
                rfl
              refine take_ (i := 0) (N := some 70) (v := ?_) (a' := ?_) #[true, true, true, true, false, false] rfl rfl (by kernel_rfl) (fun _ _ _ h => h) (Or.inl ⟨by rfl, ?_⟩) hHeld ?_ ?_
              rotate_left
              · rintro w' ⟨s0, s1, s2⟩
                go_simp
                with_reducible rfl
              rotate_left
              · simp only [Act.put, List.setIfInBounds_toArray, List.set_cons_zero, List.set_cons_succ, i64_w, i32_w]
                rfl
              refine take_ (i := 4) (N := some 74) (v := ?_) (a' := ?_) #[true, true, true, true, true, false] rfl rfl (by kernel_rfl) (fun _ _ _ h => h) (Or.inl ⟨by rfl, ?_⟩) hHeld ?_ ?_
              rotate_left
              · rintro w' ⟨s0, s1, s2⟩
                go_simp
                with_reducible rfl
              rotate_left
              · simp only [Act.put, List.setIfInBounds_toArray, List.set_cons_zero, List.set_cons_succ, i64_w, i32_w]
                rfl
              have HN5 : Aside0 (NMap w4.drew M M l1.length p l1) := ⟨HN4.out.drew⟩
              have HB5 : Aside0 (Below w.heap.size w w4.drew) := ⟨below_drew1 HB4.out⟩
              have HL5 : Aside0 (Kd.R Kd.string 9 w4.drew w.heap.size (fun k => k < M) (.slice (some ⟨g, 0, none⟩) lf.length c) lf) := ⟨Kd.R_drew HL4.out⟩
              have HO5 : Aside0 (Kd.R Kd.string 9 w4.drew w.heap.size (fun k => D + 2 ≤ k) v1 (out ++ [x])) := ⟨Kd.R_drew HO4.out⟩
              have HX5 : Aside0 (w4.drew.heap[M + 1]? = some (.cells #[.map (some M)] 52 (0, 0))) := ⟨HX4.out⟩
              have HY5 : Aside0 (w4.drew.heap[D + 1]? = some (.cells #[.map (some D)] 53 (0, 0))) := ⟨HY4.out⟩
              generalize w4.drew = wb at HN5 HB5 HL5 HO5 HX5 HY5 hHeld ⊢
              clear HN4 HB4 HL4 HO4 HX4 HY4 hcx4 hby4 HS4
              refine last_ (i := 5) (N := none) #[true, true, true, true, true, true] rfl rfl (by kernel_rfl) (by decide) (fun K hK => ?_)
              refine sstore_step rfl (.tmp 70) (.tmp 74) (.const (.bool true)) 53 rfl 9 4 Try.underlying9 Try.underlying53 D ls.length (bv (doneS out)) rfl hHeld.2.2 (by unfold maxLen; omega) x (.bool true) rfl rfl HXO.out ?_
              intro w5 hm5 hg5 hz5
              rw [bv_mark, doneS_snoc] at hm5
              have HM5 := Aside0.mk hm5
              have HN6 : Aside0 (NMap w5 M M l1.length p l1) := ⟨HN5.out.grown hg5 (by have := HMD.out; intro e; injection e with e; omega) (fun s v k hs hk e => by injection e with e; have := HRL.out s v k hs hk; omega)⟩
              have HB6 : Aside0 (Below w.heap.size w w5) := ⟨HB5.out.grown hg5 HB5.out.size (fun k e => by injection e with e; have := HWD.out; omega)⟩
              have HL6 : Aside0 (Kd.R Kd.string 9 w5 w.heap.size (fun k => k < M) (.slice (some ⟨g, 0, none⟩) lf.length c) lf) := ⟨Kd.R_grown HL5.out hg5 (fun k hk e => by injection e with e; have := HMD.out; omega)⟩
              have HO6 : Aside0 (Kd.R Kd.string 9 w5 w.heap.size (fun k => D + 2 ≤ k) v1 (out ++ [x])) := ⟨Kd.R_grown HO5.out hg5 (fun k hk e => by injection e with e; omega)⟩
              have HX6 : Aside0 (w5.heap[M + 1]? = some (.cells #[.map (some M)] 52 (0, 0))) := ⟨blk_grown HX5.out hg5 (by have := HMD.out; intro e; injection e with e; omega)⟩
              have HY6 : Aside0 (w5.heap[D + 1]? = some (.cells #[.map (some D)] 53 (0, 0))) := ⟨blk_grown HY5.out hg5 (by intro e; injection e with e; omega)⟩
              clear hm5 hg5 hz5 HN5 HB5 HL5 HO5 HX5 HY5
              refine hK.out _ _ ?_
              clear hK K
              refine done_ (by kernel_rfl) ?_
              clear hHeld
              have k2 := delete_row HL6.out j hj
              go_wp2_with (go_at_call 31; refine k2.mono ?_; rintro e w6 ⟨rfl, hl6, hg6⟩)
              have HN7 : Aside0 (NMap w6 M M l1.length p l1) := ⟨HN6.out.grown hg6 (by have := HGM.out; intro e; injection e with e; omega) (fun s v k hs hk e => by injection e with e; have := HRL.out s v k hs hk; have := HGM.out; omega)⟩
              have HB7 : Aside0 (Below w.heap.size w w6) := ⟨HB6.out.grown hg6 HB6.out.size (fun k e => by injection e with e; have := HGM.out; omega)⟩
              have HO7 : Aside0 (Kd.R Kd.string 9 w6 w.heap.size (fun k => D + 2 ≤ k) v1 (out ++ [x])) := ⟨Kd.R_grown HO6.out hg6 (fun k hk e => by injection e with e; have := HGM.out; have := HMD.out; omega)⟩
              have HX7 : Aside0 (w6.heap[M + 1]? = some (.cells #[.map (some M)] 52 (0, 0))) := ⟨blk_grown HX6.out hg6 (by have := HGM.out; intro e; injection e with e; omega)⟩
              have HY7 : Aside0 (w6.heap[D + 1]? = some (.cells #[.map (some D)] 53 (0, 0))) := ⟨blk_grown HY6.out hg6 (by have := HGM.out; have := HMD.out; intro e; injection e with e; omega)⟩
              have HS7 : Aside0 (SMap Try.prog 9 w6 D ls.length (bv (doneS (out ++ [x])))) := ⟨(SMap_bound7 HM5.out hg6 (by have := HGM.out; have := HMD.out; intro e; injection e with e; omega) (by have := HK.out; simp; omega))⟩
              have HL7 := Aside0.mk hl6
              clear hl6 hg6 HN6 HB6 HO6 HX6 HY6 HM5 HL6
              go_roundg (lf.length - 1)
              case measure => have := HK.out; omega
              case rel => exact ⟨lf.eraseIdx j, out ++ [x], _, c, rfl, ⟨by have := HEL.out; omega, by have := HEL.out; have := HK.out; simp; omega⟩, ⟨by rw [HEL.out]; exact HE2.out⟩, HOE, HN7, HS7, HL7, HO7, HX7, HY7, HB7⟩
  · have hd2 : ((sortD l0).length != (sortL l0).length) = true := by simpa using hd
    have HE : Aside0 (orderF l0 l1 = ([], 10)) := ⟨by rw [HF.out, if_pos (by omega)]⟩
    rw [HE.out]
    clear hd HF HE
    go_wp2_with (first | (go_at_call 23; refine (values_calls A0 _ c0 w).mono ?_; rintro e w2 ⟨rfl, rfl⟩) | (go_at_call 22; refine (sorted_calls w.heap.size _ l0 (by omega) _ (by simp) (World.cell?_alloc_new _ _ _ _) (strs_of_C (Kd.C_alloc HR0.out _) c0)).mono ?_; rintro e w3 ⟨v3, rfl, ho, hb⟩; obtain ⟨A6, c6, e6⟩ := Kd.R_slice ho; subst e6; have HO := Aside0.mk ho; have HB3 := Aside0.mk hb; clear ho hb) | (go_at_call 25; refine (clone_row HO.out (by rw [HSL.out]; omega)).mono ?_; rintro e w4 ⟨v4, rfl, ho, hb⟩; have HO4 := Aside0.mk ho; have HB4 := Aside0.mk hb; clear ho hb) | (go_at_call 24; refine (compact_row v4 _ _ _ _ HO4.out (by rw [HSL.out]; omega)).mono ?_; rintro e w5 ⟨v5, rfl, ho, hg⟩; rw [compact_sortL] at ho; obtain ⟨A7, c7, e7⟩ := Kd.R_slice ho; subst e7; have HO5 := Aside0.mk ho; have HG5 := Aside0.mk hg; clear ho hg))
    go_ret2
    have h1 : w.heap.size < (w.alloc (.cells #[.slice A0 l0.length c0] 23)).heap.size := by simp
    have h2 := (HB3.out.mono (Nat.le_of_lt h1))
    have h3 : Below w.heap.size w w3 := ((Below.refl _ _).alloc (Nat.le_refl _) _).trans h2
    have h4 : Below w.heap.size w w4 := h3.trans (HB4.out.mono h3.size)
    refine ⟨_, rfl, Kd.R_nil _ _ _ _ _, h4.grown HG5.out h4.size (fun k e => Nat.le_trans h3.size (Kd.R_base HO4.out k e))⟩

theorem graph_Order.calls (A0 : Option Addr) (c0 : Nat) (l0 : List ByteArray) (A1 : Option Addr) (c1 : Nat) (l1 : List S40) (r0 : List ByteArray) (r1 : Int) (w : World) (hr0 : Kd.C Kd.string w A0 l0.length l0) (hc0 : l0.length ≤ c0) (hr1 : Kd.C k40 w A1 l1.length l1) (hc1 : l1.length ≤ c1) (h : graph_Order.f l0 l1 = some (r0, r1)) :
    Calls Try.prog 10 #[.slice A0 l0.length c0, .slice A1 l1.length c1] w fun e w' => ∃ v0_ : Value, e = .returned (.tuple #[v0_, .int .i64 r1]) ∧ Kd.R Kd.string 9 w' w.heap.size (fun _ => True) v0_ r0 ∧ Below w.heap.size w w' := by
  obtain ⟨⟨⟨hl, hok⟩, hl1, hok1⟩, he⟩ := grd_some h
  have := order_calls A0 c0 l0 A1 c1 l1 w hr0 hr1 hl hok hl1 hok1
  rw [he] at this
  exact this
end Go.Proofs.Ytkmcepeejleahaa.Q
