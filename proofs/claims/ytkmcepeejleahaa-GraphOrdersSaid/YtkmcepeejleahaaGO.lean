/-
  The walk of GraphOrders. A condition: texts no longer than a text can be.
-/
import Derived.Test.YtkmcepeejleahaaL1
namespace Go.Proofs.Ytkmcepeejleahaa.Q
open Go.RowKit Go.Proofs.YtkmcepeejleahaaW.PrintWords Go.Proofs.YtkmcepeejleahaaW.PrintLast Go.Proofs.YtkmcepeejleahaaW.PrintMore Go.Proofs.Ytkmcepeejleahaa.M
set_option linter.unusedVariables false
set_option linter.unusedSimpArgs false

/-- three rows in a block of three slices -/
structure Three {α : Type} (d : Kd α) (W : World) (B : Nat) (A : Nat → Option Addr) (c : Nat → Nat) (P : Nat → List α) : Prop where
  cell : ∀ j, j < 3 → W.cell? ⟨B, j, none⟩ = some (.slice (A j) (P j).length (c j))
  row : ∀ j, j < 3 → Kd.C d W (A j) (P j).length (P j)
  cap : ∀ j, j < 3 → (P j).length ≤ c j
theorem Three.below {α : Type} {d : Kd α} {W W' : World} {B : Nat} {A : Nat → Option Addr} {c : Nat → Nat} {P : Nat → List α} (h : Three d W B A c P) (hb : Below W.heap.size W W') : Three d W' B A c P :=
  ⟨fun j hj => (hb.cell (World.block_lt_of_cell? W _ (h.cell j hj))).trans (h.cell j hj), fun j hj => Kd.C_below (h.row j hj) hb, h.cap⟩
theorem orderF_len (P : List ByteArray) (E : List S40) (h : P.length ≤ 1000) : (orderF P E).1.length ≤ 1000 := by
  rcases Classical.em P.Nodup with hn | hn
  · rcases Classical.em (∀ e ∈ E, e.f0 ∈ P ∧ e.f1 ∈ P) with hi | hi
    · rcases orderF_ends hn hi with ⟨_, e, _⟩ | ⟨e, _⟩
      · omega
      · rw [e]; simp
    · rw [orderF_out hn hi]; simp
  · rw [orderF_dup E hn]; simp
def of3 {α : Type} (x y z : α) : Nat → α | 0 => x | 1 => y | _ => z

set_option maxHeartbeats 4000000 in
theorem orders_calls (a0 a1 : Int) (A2 : Option Addr) (c2 : Nat) (l2 : List Int) (a3 : Bool) (A4 : Option Addr) (c4 : Nat) (l4 : List ByteArray) (A5 : Option Addr) (c5 : Nat) (l5 : List S40) (w : World) (hr2 : Kd.C (Kd.int .u8) w A2 l2.length l2) (hc2 : l2.length ≤ c2) (hr4 : Kd.C Kd.string w A4 l4.length l4) (hc4 : l4.length ≤ c4) (hr5 : Kd.C k40 w A5 l5.length l5) (hc5 : l5.length ≤ c5)
    (w0 : (Lit.int .i64 a0).wf = true) (w1 : (Lit.int .i64 a1).wf = true) (hw : ∀ x ∈ l2, (Lit.int .u8 x).wf = true) (h4 : okL l4) (h5 : okE l5) :
    Calls Try.prog 3 #[.int .i64 a0, .int .i64 a1, .slice A2 l2.length c2, .bool a3, .slice A4 l4.length c4, .slice A5 l5.length c5] w fun e w' => e = .returned (.bool true) ∧ Below w.heap.size w w' := by
  obtain ⟨k1, hk1⟩ := awake_ev.rounds
  have HAW := Aside0.mk hk1
  have HR2 := Aside0.mk hr2
  have HR4 := Aside0.mk hr4
  have HR5 := Aside0.mk hr5
  clear hk1 hr2 hr4 hr5
  by_cases hbig : 12 < l4.length
  · have hb1 : decide (12 < l4.length) = true := by simpa using hbig
    go_enter Try.func3, Try.ntmps3
    go_wp2_with (go_at_call 7; (refine (flagstonelaw10_awake.calls k1 true _ HAW.out).mono ?_); rintro e w1 ⟨rfl, hb⟩; have HB := Aside0.mk hb; clear hb)
    go_ret
    exact ⟨rfl, HB.out⟩
  · by_cases hbig2 : 30 < l5.length
    · have hb1 : decide (12 < l4.length) = false := by simpa using hbig
      have hb2 : decide (30 < l5.length) = true := by simpa using hbig2
      go_enter Try.func3, Try.ntmps3
      go_wp2_with (go_at_call 7; (refine (flagstonelaw10_awake.calls k1 true _ HAW.out).mono ?_); rintro e w1 ⟨rfl, hb⟩; have HB := Aside0.mk hb; clear hb)
      go_ret
      exact ⟨rfl, HB.out⟩
    · have hb1 : decide (12 < l4.length) = false := by simpa using hbig
      have hb2 : decide (30 < l5.length) = false := by simpa using hbig2
      have hl := nodesF_len a0 a1
      have HOK := Aside0.mk (nodesF_ok a0 a1)
      have HNF := Aside0.mk (nodes_f w0 w1)
      have HOK4 := Aside0.mk h4
      have HOK5 := Aside0.mk h5
      obtain ⟨x, hx, hm, hxl⟩ := edges_ev (nodesF a0 a1) l2 a3 (by omega) hw
      obtain ⟨k2, hk2⟩ := hx.rounds
      have HED := Aside0.mk hk2
      have HKE := Aside0.mk (hm.ok HOK.out)
      have hl4 : l4.length ≤ 12 := by omega
      have hl5 : l5.length ≤ 30 := by omega
      generalize nodesF a0 a1 = l at hl HOK HNF hm HED
      clear hbig hbig2 hx hk2 hm h4 h5 hw w0 w1
      go_enter Try.func3, Try.ntmps3
      go_upto_region 7 with (first | (go_at_call 7; ((refine (flagstonelaw10_awake.calls k1 true _ HAW.out).mono ?_); rintro e w1 ⟨rfl, hb⟩; have HB := Aside0.mk hb; clear hb)) | (go_at_call 8; refine (flagstonelaw10_nodes.calls a0 a1 l _ HNF.out).mono ?_; rintro e w2 ⟨v2, rfl, ho, hb⟩; obtain ⟨A13, c13, e13⟩ := Kd.R_slice ho; subst e13; have HB2 := Aside0.mk (below_then HB.out HB.out.size hb); have HO2 := Aside0.mk ho; clear ho hb) | (go_at_call 9; refine (flagstonelaw10_edges.calls k2 _ _ l _ _ l2 a3 x _ (Kd.R_reads' HO2.out).2.2 (Kd.R_reads' HO2.out).2.1 (Kd.C_below HR2.out HB2.out) hc2 HED.out).mono ?_; rintro e w3 ⟨v3, rfl, ho, hb⟩; obtain ⟨A14, c14, e14⟩ := Kd.R_slice ho; subst e14; have HO3 := Aside0.mk ho; have HB3 := Aside0.mk (below_then HB2.out HB2.out.size hb); have HO2b := Aside0.mk (Kd.R_below HO2.out hb); clear ho hb))
      have HBS3 := Aside0.mk HB3.out.size
      go_wp2_with (first | ((with_reducible refine gate_builtin (b := .append) (xs := #[.const (.slice none 0 0), .tmp 42]) rfl ?_); at_builtin; refine Kd.R_append_rows Kd.string (w0 := w) w.heap.size rfl (.const (.slice none 0 0)) (.tmp 42) 23 9 (.string ⟨#[]⟩) 16 rfl Try.underlying23 info9 rfl (by decide) (by omega) (.slice none 0 0) ([] : List ByteArray) l A13 l.length c13 (fun k => some k ≠ (Value.slice A13 l.length c13).ownBlock ∧ some k ≠ (Value.slice A14 x.length c14).ownBlock) (fun _ => False) rfl rfl (Kd.R_nil _ _ _ _ _) (Kd.R_reads' HO2b.out).2.2 (fun _ _ h => h) (fun _ h => h.elim) (fun k hk => ⟨fun e => by have := Kd.R_lt HO2b.out k e.symm; omega, fun e => by have := Kd.R_lt HO3.out k e.symm; omega⟩) HB3.out HBS3.out (by simp; omega) ?_; intro v43 w4 ho hb hg hat; rw [List.nil_append] at ho; have HO4 := Aside0.mk ho; have HB4 := Aside0.mk hb; have HO2c := Aside0.mk (Kd.R_grown (ok := fun k => True) HO2b.out hg (fun k _ e => by simp [Value.ownBlock] at e)); have HO3c := Aside0.mk (Kd.R_grown HO3.out hg (fun k _ e => by simp [Value.ownBlock] at e)); have HBS4 := Aside0.mk hb.size; clear ho hb hg hat) | ((with_reducible refine gate_builtin (b := .append) (xs := #[.tmp 43, .tmp 44]) rfl ?_); at_builtin; refine Kd.R_append_rows Kd.string (w0 := w) w.heap.size rfl (.tmp 43) (.tmp 44) 23 9 (.string ⟨#[]⟩) 16 rfl Try.underlying23 info9 rfl (by decide) (by omega) v43 l l4 A4 l4.length c4 (fun _ => True) (fun _ => False) rfl rfl (Kd.R_mono HO4.out (fun _ _ => trivial)) (Kd.C_below HR4.out HB4.out) (fun _ _ h => h) (fun _ h => h.elim) (fun _ _ => trivial) HB4.out HBS4.out (by omega) ?_; intro v45 w5 ho hb hg hat; obtain ⟨A45, c45, e45⟩ := Kd.R_slice ho; subst e45; have HO5 := Aside0.mk ho; have HB5 := Aside0.mk hb; have HG5 := Aside0.mk hg; clear ho hb hg hat))
      have HO2d : Aside0 (Kd.C Kd.string w5 A13 l.length l) := ⟨(Kd.R_reads' (Kd.R_grown (Kd.R_tight rfl HO2c.out) HG5.out (fun k hk e => (HO4.out.1 k e.symm).1 hk))).2.2⟩
      have HO3d : Aside0 (Kd.C k40 w5 A14 x.length x) := ⟨(Kd.R_reads' (Kd.R_grown (Kd.R_tight rfl HO3c.out) HG5.out (fun k hk e => (HO4.out.1 k e.symm).2 hk))).2.2⟩
      have HC13 := Aside0.mk (Kd.R_reads' HO2b.out).2.1
      have HC14 := Aside0.mk (Kd.R_reads' HO3.out).2.1
      have HC45 := Aside0.mk (Kd.R_reads' HO5.out).2.1
      have HCR45 := Aside0.mk (Kd.R_reads' HO5.out).2.2
      have hll : (l ++ l4).length = l.length + l4.length := List.length_append
      generalize hwl : w5.alloc (.cells #[.slice A13 l.length c13, .slice A4 l4.length c4, .slice A45 (l.length + l4.length) c45] 23) = wL
      have HAL : Aside0 (Below w5.heap.size w5 wL) := ⟨by rw [← hwl]; exact (Below.refl _ _).alloc (Nat.le_refl _) _⟩
      have HBL : Aside0 (Below w.heap.size w wL) := ⟨HB5.out.trans (HAL.out.mono HB5.out.size)⟩
      have HXL : Aside0 (wL.heap[w5.heap.size]? = some (.cells #[.slice A13 l.length c13, .slice A4 l4.length c4, .slice A45 (l.length + l4.length) c45] 23 (0, 0))) := ⟨by rw [← hwl]; exact blk_new w5 _⟩
      have HT : Aside0 (Three Kd.string wL w5.heap.size (of3 A13 A4 A45) (of3 c13 c4 c45) (of3 l l4 (l ++ l4))) := ⟨by
        refine ⟨fun j hj => ?_, fun j hj => ?_, fun j hj => ?_⟩
        · rw [blk_cell HXL.out j]
          have : j = 0 ∨ j = 1 ∨ j = 2 := by omega
          rcases this with rfl | rfl | rfl
          · rfl
          · rfl
          · show some (Value.slice A45 (l.length + l4.length) c45) = some (Value.slice A45 (l ++ l4).length c45)
            rw [hll]
        · have : j = 0 ∨ j = 1 ∨ j = 2 := by omega
          rcases this with rfl | rfl | rfl
          · exact Kd.C_below HO2d.out HAL.out
          · exact Kd.C_below HR4.out HBL.out
          · exact Kd.C_below HCR45.out HAL.out
        · have : j = 0 ∨ j = 1 ∨ j = 2 := by omega
          rcases this with rfl | rfl | rfl
          · exact HC13.out
          · exact hc4
          · show (l ++ l4).length ≤ c45
            exact HC45.out⟩
      have HPL : Aside0 (∀ j, j < 3 → (of3 l l4 (l ++ l4) j).length ≤ 20 ∧ okL (of3 l l4 (l ++ l4) j)) := ⟨fun j hj => by
        have : j = 0 ∨ j = 1 ∨ j = 2 := by omega
        rcases this with rfl | rfl | rfl
        · exact ⟨by show l.length ≤ 20; omega, HOK.out⟩
        · exact ⟨by show l4.length ≤ 20; omega, HOK4.out⟩
        · refine ⟨by show (l ++ l4).length ≤ 20; omega, fun z hz => ?_⟩
          rcases List.mem_append.1 (show z ∈ l ++ l4 from hz) with e | e
          · exact HOK.out z e
          · exact HOK4.out z e⟩
      have HXR : Aside0 (Kd.C k40 wL A14 x.length x) := ⟨Kd.C_below HO3d.out HAL.out⟩
      have HBW : Aside0 (w.heap.size ≤ wL.heap.size) := ⟨HBL.out.size⟩
      clear HO2d HO3d HC13 HC45 HCR45 hll hwl HAL HXL HB HB2 HB3 HB4 HB5 HO2 HO2b HO2c HO3 HO3c HO4 HO5 HG5 HBS3 HBS4 HR2 HAW HED HNF HOK HOK4 HR4
      generalize w5.heap.size = B at HT ⊢
      generalize of3 A13 A4 A45 = As at HT
      generalize of3 c13 c4 c45 = cs at HT
      generalize of3 l l4 (l ++ l4) = Ps at HT HPL
      go_loopw [48] (fun v48 wr => ∃ i : Int, v48 = .int .i64 i ∧ Aside0 (0 ≤ i ∧ i ≤ 3) ∧ Aside0 (Below wL.heap.size wL wr)) (fun v48 _ => 3 - (intOf v48).toNat)
      case atStart => exact ⟨0, rfl, ⟨by omega⟩, ⟨Below.refl _ _⟩⟩
      case round =>
        obtain ⟨i, rfl, HI, HB⟩ := hrel
        by_cases hlt : i < 3
        · have p1 : 0 ≤ i := HI.out.1
          have HTr := Aside0.mk (HT.out.below HB.out)
          have hin : i.toNat < 3 := by omega
          have hcp := HTr.out.cell i.toNat hin
          have HRP := Aside0.mk (HTr.out.row i.toNat hin)
          have HRPL := Aside0.mk (HT.out.row i.toNat hin)
          have HCP := Aside0.mk (HTr.out.cap i.toNat hin)
          have HPP := Aside0.mk (HPL.out i.toNat hin)
          have HXr := Aside0.mk (Kd.C_below HXR.out HB.out)
          have HYr : Aside0 (Kd.C k40 wr A5 l5.length l5) := ⟨Kd.C_below HR5.out (HBL.out.trans (HB.out.mono HBW.out))⟩
          have HBS := Aside0.mk HB.out.size
          clear hin
          generalize Ps i.toNat = P at hcp HRP HRPL HCP HPP
          generalize As i.toNat = AP at hcp HRP HRPL
          generalize cs i.toNat = cP at hcp HCP
          have hplen := HPP.out.1
          obtain ⟨wo, rfl⟩ : ∃ wo : World, wo = wr := ⟨_, rfl⟩
          go_wp2_with (first | ((with_reducible refine gate_builtin (b := .append) (xs := #[.const (.slice none 0 0), .tmp 54]) rfl ?_); at_builtin; refine Kd.R_append_rows k40 (w0 := wL) wL.heap.size rfl (.const (.slice none 0 0)) (.tmp 54) 24 40 (.agg #[(.string ⟨#[]⟩), (.string ⟨#[]⟩)]) 32 rfl Try.underlying24 info40 rfl (by decide) (by omega) (.slice none 0 0) ([] : List S40) x A14 x.length c14 (fun _ => True) (fun _ => False) rfl rfl (Kd.R_nil _ _ _ _ _) HXr.out (fun _ _ h => h) (fun _ h => h.elim) (fun _ _ => trivial) HB.out HBS.out (by simp; omega) ?_; intro v55 w6 ho hb hg hat; rw [List.nil_append] at ho; have HO6 := Aside0.mk ho; have HB6 := Aside0.mk hb; have HG6 := Aside0.mk hg; have HBS6 := Aside0.mk hb.size; have HYr6 := Aside0.mk (Kd.C_below HYr.out ((Below.refl _ wo).grown hg (Nat.le_refl _) (fun k e => by simp [Value.ownBlock] at e))); clear ho hb hg hat) | ((with_reducible refine gate_builtin (b := .append) (xs := #[.tmp 55, .tmp 56]) rfl ?_); at_builtin; refine Kd.R_append_rows k40 (w0 := wL) wL.heap.size rfl (.tmp 55) (.tmp 56) 24 40 (.agg #[(.string ⟨#[]⟩), (.string ⟨#[]⟩)]) 32 rfl Try.underlying24 info40 rfl (by decide) (by omega) v55 x l5 A5 l5.length c5 (fun _ => True) (fun _ => False) rfl rfl HO6.out HYr6.out (fun _ _ h => h) (fun _ h => h.elim) (fun _ _ => trivial) HB6.out HBS6.out (by omega) ?_; intro v57 w7 ho hb hg hat; obtain ⟨A57, c57, e57⟩ := Kd.R_slice ho; subst e57; have HO7 := Aside0.mk ho; have HB7 := Aside0.mk hb; clear ho hb hg hat))
          have HO7r := Aside0.mk (Kd.R_reads' HO7.out).2.2
          have HC57 := Aside0.mk (Kd.R_reads' HO7.out).2.1
          have hle : (x ++ l5).length = x.length + l5.length := List.length_append
          generalize hwe : w7.alloc (.cells #[.slice A14 x.length c14, .slice A5 l5.length c5, .slice A57 (x.length + l5.length) c57] 24) = wE
          have HAE : Aside0 (Below w7.heap.size w7 wE) := ⟨by rw [← hwe]; exact (Below.refl _ _).alloc (Nat.le_refl _) _⟩
          have HBE : Aside0 (Below wL.heap.size wL wE) := ⟨HB7.out.trans (HAE.out.mono HB7.out.size)⟩
          have HXE : Aside0 (wE.heap[w7.heap.size]? = some (.cells #[.slice A14 x.length c14, .slice A5 l5.length c5, .slice A57 (x.length + l5.length) c57] 24 (0, 0))) := ⟨by rw [← hwe]; exact blk_new w7 _⟩
          have HTE : Aside0 (Three k40 wE w7.heap.size (of3 A14 A5 A57) (of3 c14 c5 c57) (of3 x l5 (x ++ l5))) := ⟨by
            refine ⟨fun j hj => ?_, fun j hj => ?_, fun j hj => ?_⟩
            · rw [blk_cell HXE.out j]
              have : j = 0 ∨ j = 1 ∨ j = 2 := by omega
              rcases this with rfl | rfl | rfl
              · rfl
              · rfl
              · show some (Value.slice A57 (x.length + l5.length) c57) = some (Value.slice A57 (x ++ l5).length c57)
                rw [hle]
            · have : j = 0 ∨ j = 1 ∨ j = 2 := by omega
              rcases this with rfl | rfl | rfl
              · exact Kd.C_below HXR.out HBE.out
              · exact Kd.C_below HR5.out (HBL.out.trans (HBE.out.mono HBW.out))
              · exact Kd.C_below HO7r.out HAE.out
            · have : j = 0 ∨ j = 1 ∨ j = 2 := by omega
              rcases this with rfl | rfl | rfl
              · exact HC14.out
              · exact hc5
              · exact HC57.out⟩
          have HEL : Aside0 (∀ j, j < 3 → (of3 x l5 (x ++ l5) j).length ≤ 60 ∧ okE (of3 x l5 (x ++ l5) j)) := ⟨fun j hj => by
            have : j = 0 ∨ j = 1 ∨ j = 2 := by omega
            rcases this with rfl | rfl | rfl
            · exact ⟨by show x.length ≤ 60; omega, HKE.out⟩
            · exact ⟨by show l5.length ≤ 60; omega, HOK5.out⟩
            · refine ⟨by show (x ++ l5).length ≤ 60; omega, fun z hz => ?_⟩
              rcases List.mem_append.1 (show z ∈ x ++ l5 from hz) with e | e
              · exact HKE.out z e
              · exact HOK5.out z e⟩
          have HRE : Aside0 (Kd.C Kd.string wE AP P.length P) := ⟨Kd.C_below HRPL.out HBE.out⟩
          have HBEs : Aside0 (wL.heap.size ≤ wE.heap.size) := ⟨HBE.out.size⟩
          clear HO7r HC57 hle hwe HAE HXE HO6 HB6 HG6 HBS6 HYr6 HO7 HB7 HB HBS HXr HYr
          generalize w7.heap.size = B2 at HTE ⊢
          generalize of3 A14 A5 A57 = Ae at HTE
          generalize of3 c14 c5 c57 = ce at HTE
          generalize of3 x l5 (x ++ l5) = Es at HTE HEL
          go_loopw [60] (fun v60 wr => ∃ j : Int, v60 = .int .i64 j ∧ Aside0 (0 ≤ j ∧ j ≤ 3) ∧ Aside0 (Below wE.heap.size wE wr)) (fun v60 _ => 3 - (intOf v60).toNat)
          case atStart => exact ⟨0, rfl, ⟨by omega⟩, ⟨Below.refl _ _⟩⟩
          case round =>
            obtain ⟨j, rfl, HJ, HB⟩ := hrel
            by_cases hjt : j < 3
            · have p2 : 0 ≤ j := HJ.out.1
              have HTr2 := Aside0.mk (HTE.out.below HB.out)
              have hjn : j.toNat < 3 := by omega
              have hce := HTr2.out.cell j.toNat hjn
              have HRE2 := Aside0.mk (HTr2.out.row j.toNat hjn)
              have HCE := Aside0.mk (HTr2.out.cap j.toNat hjn)
              have HEE := Aside0.mk (HEL.out j.toNat hjn)
              have HRP2 := Aside0.mk (Kd.C_below HRE.out HB.out)
              have HBS := Aside0.mk HB.out.size
              clear hjn
              generalize Es j.toNat = E at hce HRE2 HCE HEE
              generalize Ae j.toNat = AE at hce HRE2
              generalize ce j.toNat = cE at hce HCE
              have helen := HEE.out.1
              have hof := order_f (l := P) (x := E) (by omega) HPP.out.2 (by omega) HEE.out.2
              obtain ⟨k3, hk3⟩ := (order_ev P E (by omega) (by omega)).rounds
              have hol : (orderF P E).1.length ≤ 1000 := orderF_len P E (by omega)
              obtain ⟨k4, hk4⟩ := (same_ev (orderF P E).1 (by omega)).rounds
              generalize orderF P E = o at hof hk3 hk4 hol
              obtain ⟨o1, o2⟩ := o
              simp only at hk4
              have HOF := Aside0.mk hof
              have HK3 := Aside0.mk hk3
              have HK4 := Aside0.mk hk4
              clear hof hk3 hk4 hol
              obtain ⟨wo2, rfl⟩ : ∃ wo2 : World, wo2 = wr := ⟨_, rfl⟩
              go_wp2_with (first | (go_at_call 10; refine (graph_Order.calls _ _ P _ _ E o1 o2 _ HRP2.out HCP.out HRE2.out HCE.out HOF.out).mono ?_; rintro e w8 ⟨v8, rfl, ho, hb⟩; obtain ⟨A8, c8, e8⟩ := Kd.R_slice ho; subst e8; have HO8 := Aside0.mk ho; have HB8 := Aside0.mk hb; have HRP8 := Aside0.mk (Kd.C_below HRP2.out hb); have HRE8 := Aside0.mk (Kd.C_below HRE2.out hb); clear ho hb) | (go_at_call 11; refine (flagstoneref9_Order.calls k3 _ _ P _ _ E o1 o2 _ HRP8.out HCP.out HRE8.out HCE.out HK3.out).mono ?_; rintro e w9 ⟨v9, rfl, ho, hb⟩; obtain ⟨A9, c9, e9⟩ := Kd.R_slice ho; subst e9; have HO9 := Aside0.mk ho; have HB9 := Aside0.mk hb; have HO8b := Aside0.mk (Kd.R_below HO8.out hb); clear ho hb) | (go_at_call 12; refine (flagstoneref1_Same.calls k4 _ _ o1 _ _ o1 true _ (Kd.R_reads' HO8b.out).2.2 (Kd.R_reads' HO8b.out).2.1 (Kd.R_reads' HO9.out).2.2 (Kd.R_reads' HO9.out).2.1 HK4.out).mono ?_; rintro e w10 ⟨rfl, hd⟩; have HB10 := Aside0.mk hd.below; clear hd))
              go_roundw
              case rel =>
                have s8 := Nat.le_trans HBS.out HB8.out.size
                exact ⟨j + 1, rfl, ⟨by omega⟩, ⟨below_then (below_then (below_then HB.out HBS.out HB8.out) s8 HB9.out) (Nat.le_trans s8 HB9.out.size) HB10.out⟩⟩
              case measure => simp [intOf]; omega
            · go_wp2
              go_roundw
              case rel => exact ⟨i + 1, rfl, ⟨by omega⟩, ⟨HBE.out.trans (HB.out.mono HBEs.out)⟩⟩
              case measure => simp [intOf]; omega
        · go_wp2
          go_ret
          exact ⟨rfl, HBL.out.trans (HB.out.mono HBW.out)⟩
end Go.Proofs.Ytkmcepeejleahaa.Q
