/-
  The walks of identity.Root, Same, Forest. No condition beyond those that stand in each.
-/
import Derived.Test.YtmhcpaohligjaaaH1
namespace Go.Proofs.Ytmhcpaohligjaaa.Q
set_option linter.unusedVariables false
set_option linter.unusedSimpArgs false
open Go.RowKit Go.Proofs.YtmhcpaohligjaaaW.PrintWords Go.Proofs.YtmhcpaohligjaaaW.PrintLast Go.Proofs.Ytmhcpaohligjaaa.M

theorem identity_Root.calls (A0 : Option Addr) (c0 : Nat) (l0 : List S28) (a1 : ByteArray) (r : ByteArray) (w : World) (hr0 : Kd.C k28 w A0 l0.length l0) (hc0 : l0.length ≤ c0) (h : identity_Root.f l0 a1 = some r) :
    Calls Try.prog 20 #[.slice A0 l0.length c0, .string a1] w fun e w' => e = .returned (.string r) ∧ Below w.heap.size w w' := by
  obtain ⟨⟨⟨h1, h2⟩, h3⟩, rfl⟩ := grd_some h
  obtain ⟨m, hm⟩ := (tree_ofL l0).rootIn a1
  have HOF := Aside0.mk ((tree_ofL l0).okF (okL_ids h2))
  have HM := Aside0.mk hm
  have H3 := Aside0.mk h3
  have c1 := of_calls A0 c0 l0 w hr0 h1 h2
  clear h h1 h2 h3 hm hr0
  go_enter Try.func20, Try.ntmps20
  go_wp2_with (first | (go_at_call 31; refine c1.mono ?_; rintro e w1 ⟨rfl, hs, hb⟩; have HS := Aside0.mk hs; have HB := Aside0.mk hb; clear hs hb) | (go_at_call 32; refine (root_calls _ _ m _ _ _ _ HS.out HM.out H3.out HOF.out).mono ?_; rintro e w' ⟨rfl, rfl⟩))
  go_ret
  exact ⟨rfl, HB.out⟩

theorem identity_Same.calls (A0 : Option Addr) (c0 : Nat) (l0 : List S28) (a1 a2 : ByteArray) (r : Bool) (w : World) (hr0 : Kd.C k28 w A0 l0.length l0) (hc0 : l0.length ≤ c0) (h : identity_Same.f l0 a1 a2 = some r) :
    Calls Try.prog 15 #[.slice A0 l0.length c0, .string a1, .string a2] w fun e w' => e = .returned (.bool r) ∧ Below w.heap.size w w' := by
  obtain ⟨⟨⟨h1, h2⟩, h3, h4⟩, rfl⟩ := grd_some h
  obtain ⟨m, hm⟩ := (tree_ofL l0).rootIn a1
  obtain ⟨m', hm'⟩ := (tree_ofL l0).rootIn a2
  have HOF := Aside0.mk ((tree_ofL l0).okF (okL_ids h2))
  have HM := Aside0.mk hm
  have HM' := Aside0.mk hm'
  have H3 := Aside0.mk h3
  have H4 := Aside0.mk h4
  have c1 := of_calls A0 c0 l0 w hr0 h1 h2
  have tok1 : True := trivial
  have HE : ((rootC (ofL l0) a1).toList == (rootC (ofL l0) a2).toList) = sameB (rootL l0 a1) (rootL l0 a2) := toList_beq _ _
  generalize sameB (rootL l0 a1) (rootL l0 a2) = z at HE ⊢
  clear h h1 h2 h3 h4 hm hm' hr0
  go_enter Try.func15, Try.ntmps15
  go_wp2_with (first | (go_at_call 31; refine c1.mono ?_; rintro e w1 ⟨rfl, hs, hb⟩; have HS := Aside0.mk hs; have HB := Aside0.mk hb; clear hs hb) | (go_at_call 32; have _t := tok1; clear tok1; refine (root_calls _ _ m _ _ _ _ HS.out HM.out H3.out HOF.out).mono ?_; rintro e w' ⟨rfl, rfl⟩) | (go_at_call 32; refine (root_calls _ _ m' _ _ _ _ HS.out HM'.out H4.out HOF.out).mono ?_; rintro e w' ⟨rfl, rfl⟩))
  go_ret
  exact ⟨rfl, HB.out⟩

theorem identity_Forest.calls (A0 : Option Addr) (c0 : Nat) (l0 : List S28) (r : List S28) (w : World) (hr0 : Kd.C k28 w A0 l0.length l0) (hc0 : l0.length ≤ c0) (h : identity_Forest.f l0 = some r) :
    Calls Try.prog 21 #[.slice A0 l0.length c0] w fun e w' => ∃ v0_ : Value, e = .returned (v0_) ∧ Kd.R k28 28 w' w.heap.size (fun _ => True) v0_ r ∧ Below w.heap.size w w' := by
  obtain ⟨⟨hl, hok⟩, rfl⟩ := grd_some h
  have hmm := @run_makeMap Try.prog
  have HR0 := Aside0.mk hr0
  have HOK := Aside0.mk hok
  clear hr0 hok h
  go_enter Try.func21, Try.ntmps21
  go_wp2
  go_loopw [3, 10] (fun v3 v10 wr => ∃ i : Int, v10 = .int .i64 i ∧ Aside0 (0 ≤ i ∧ i ≤ l0.length) ∧ Aside0 (SMap Try.prog 9 wr w.heap.size i.toNat (fv (ofL (l0.take i.toNat)))) ∧ Aside0 (Kd.R k28 28 wr w.heap.size (fun k => k ≠ w.heap.size) v3 (forestL (l0.take i.toNat) (fun _ => none))) ∧ Aside0 (Below w.heap.size w wr)) (fun _ v10 _ => l0.length - (intOf v10).toNat)
  case atStart => exact ⟨0, rfl, ⟨by omega⟩, ⟨SMap.made _ _ _⟩, ⟨Kd.R_nil _ _ _ _ _⟩, ⟨(Below.refl _ _).alloc (Nat.le_refl _) _⟩⟩
  case round =>
    obtain ⟨i, rfl, HI, HS, HO, HB⟩ := hrel
    by_cases hlt : i < l0.length
    · have p1 : 0 ≤ i := HI.out.1
      obtain ⟨ad, e, hx0, hx1, hx2⟩ := at_T28 HR0.out i p1 hlt
      cases e
      replace hx0 := (HB.out.cell (World.block_lt_of_cell? w _ hx0)).trans hx0
      replace hx1 := (HB.out.cell (World.block_lt_of_cell? w _ hx1)).trans hx1
      replace hx2 := (HB.out.cell (World.block_lt_of_cell? w _ hx2)).trans hx2
      have HT := Aside0.mk (tree_take l0 i.toNat)
      have HOF := Aside0.mk (HT.out.okF (okL_ids HOK.out))
      have hmem : rd_T28 l0 i ∈ l0 := rd_memI p1 hlt
      have HK0 := Aside0.mk (HOK.out _ hmem)
      have HM := Aside0.mk (mem_idsL hmem)
      obtain ⟨m1, hm1⟩ := HT.out.rootIn (rd_T28 l0 i).f0
      obtain ⟨m2, hm2⟩ := HT.out.rootIn (rd_T28 l0 i).f1
      have HM1 := Aside0.mk hm1
      have HM2 := Aside0.mk hm2
      have HT1 := Aside0.mk (ofL_next p1 hlt)
      have HF1 := Aside0.mk (forest_next p1 hlt)
      have hbs : w.heap.size ≤ wr.heap.size := HB.out.size
      have HLT := Aside0.mk (HS.out.lt)
      clear hmem hm1 hm2
      by_cases hr : rootC (ofL (l0.take i.toNat)) (rd_T28 l0 i).f0 = rootC (ofL (l0.take i.toNat)) (rd_T28 l0 i).f1
      · have HR := Aside0.mk hr
        clear hr
        go_wp2_with (go_at_call 37; refine (join_same _ _ m1 m2 _ _ _ _ _ (HS.out.alloc _) HM1.out (by rw [HR.out]; exact HM2.out) HK0.out.1 HK0.out.2 HOF.out).mono ?_; rintro e w' ⟨rfl, rfl⟩)
        go_roundw
        case rel => exact ⟨i + 1, rfl, ⟨by omega⟩, ⟨by rw [HT1.out, joinK, if_pos HR.out]; exact (HS.out.alloc _).mono (by omega)⟩, ⟨by rw [HF1.out, if_pos HR.out, List.append_nil]; exact Kd.R_alloc HO.out _⟩, ⟨HB.out.alloc hbs _⟩⟩
        case measure => simp [intOf]; omega
      · have HR := Aside0.mk hr
        clear hr
        have hmx := HT.out.max_mem HM.out.1 HM.out.2
        have HMX := Aside0.mk (okL_ids HOK.out _ hmx)
        clear hmx
        go_wp2_with (first | (go_at_call 37; refine (join_two _ _ m1 m2 _ _ _ _ _ _ (HS.out.alloc _) HM1.out HM2.out HK0.out.1 HK0.out.2 HMX.out HOF.out HR.out (by unfold maxLen; omega)).mono ?_; rintro e w1 ⟨rfl, hs1, hg1, hz1⟩; have HS1 := Aside0.mk hs1; have HG1 := Aside0.mk hg1; have HZ1 := Aside0.mk hz1; have bx := (hg1.block wr.heap.size (by simp) (by have := HLT.out; intro e; injection e with e; omega)).trans (blk_new wr _); clear hs1 hg1 hz1; have q0 := blk_cell bx 0; have q1 := blk_cell bx 1; have q2 := blk_cell bx 2; simp at q0 q1 q2; have BX := Aside0.mk bx; clear bx) | (at_builtin; refine Kd.R_append k28 (w0 := w) w.heap.size rfl (.tmp 20) (.tmp 22) 24 28 (.agg #[(.string ⟨#[]⟩), (.string ⟨#[]⟩), (.int .i64 0)]) 40 rfl Try.underlying24 info28 rfl (by decide) (by omega) u3 (forestL (l0.take i.toNat) (fun _ => none)) (rd_T28 l0 i) [.string ((rd_T28 l0 i).f0), .string ((rd_T28 l0 i).f1), .int .i64 ((rd_T28 l0 i).f2)] (fun k => k ≠ w.heap.size) (fun _ => False) rfl ?aX ?aP (fun _ hk => hk.elim) ?aF ?aO ?aB ?aS ?aL ?_))
        case aX => first | rfl | (go_simp; done)
        case aP => exact k28_mkM _ _ _ (rd_T28 l0 i)
        case aF => intro k hk; have := HZ1.out; have := HLT.out; simp at *; omega
        case aO => exact Kd.R_grown (Kd.R_alloc HO.out _) HG1.out (fun k hk e => hk (by injection e))
        case aB => exact (HB.out.alloc hbs _).grown HG1.out (by simp; omega) (fun j hj => by cases hj; exact Nat.le_refl _)
        case aS => have := HZ1.out; simp at this; omega
        case aL => have := forestL_length (l0.take i.toNat) (fun _ => none); simp at this; omega
        intro v1 w2 ho hb hg hat
        have HO1 := Aside0.mk ho
        have HB1 := Aside0.mk hb
        have HS2 := Aside0.mk (HS1.out.kept hg (fun e => HO.out.1 _ e.symm rfl))
        clear ho hb hg hat
        go_wp2
        go_roundw
        case rel => exact ⟨i + 1, rfl, ⟨by omega⟩, ⟨by rw [HT1.out, joinK, if_neg HR.out]; exact HS2.out.mono (by omega)⟩, ⟨by rw [HF1.out, if_neg HR.out]; exact HO1.out⟩, ⟨HB1.out⟩⟩
        case measure => simp [intOf]; omega
    · have hi : i = l0.length := by have := HI.out; omega
      have HO2 : Aside0 (Kd.R k28 28 wr w.heap.size (fun _ => True) u3 (forestL l0 (fun _ => none))) := ⟨by have := HO.out; rw [hi] at this; exact Kd.R_mono (by simpa using this) (fun _ _ => trivial)⟩
      clear HS hi HO
      go_wp2
      go_ret
      exact ⟨_, rfl, HO2.out, HB.out⟩
end Go.Proofs.Ytmhcpaohligjaaa.Q
