/-
  The walk of identity.distances. No condition beyond those that stand in it.
-/
import Derived.Test.YtmhcpaohligjaaaS
import Derived.Test.YtmhcpaohligjaaaD2
import Derived.Outline
namespace Go.Proofs.Ytmhcpaohligjaaa.Q
open Go.RowKit Go.Proofs.YtmhcpaohligjaaaW.PrintWords Go.Proofs.YtmhcpaohligjaaaW.PrintLast Go.Proofs.Ytmhcpaohligjaaa.M
set_option linter.unusedVariables false
set_option linter.unusedSimpArgs false

theorem other_calls (k : S28) (x : ByteArray) (w : World) :
    Calls Try.prog 34 #[.agg #[.string k.f0, .string k.f1, .int .i64 k.f2], .string x] w fun e w' => e = .returned (.tuple #[.string ((otherO k x).getD ⟨#[]⟩), .bool (otherO k x).isSome]) ∧ Below w.heap.size w w' := by
  have h0 := toList_beq x k.f0
  have h1 := toList_beq x k.f1
  unfold otherO
  by_cases e0 : x = k.f0
  · rw [sameB_true e0] at h0
    rw [if_pos e0]
    clear e0 h1
    go_enter Try.func34, Try.ntmps34
    go_wp2
    go_ret2
    exact ⟨rfl, by repeat (first | exact Below.refl _ _ | apply below_alloc | apply pw_below_drewN | apply below_drew)⟩
  · rw [sameB_false e0] at h0
    rw [if_neg e0]
    clear e0
    by_cases e1 : x = k.f1
    · rw [sameB_true e1] at h1
      rw [if_pos e1]
      clear e1
      go_enter Try.func34, Try.ntmps34
      go_wp2
      go_ret2
      exact ⟨rfl, by repeat (first | exact Below.refl _ _ | apply below_alloc | apply pw_below_drewN | apply below_drew)⟩
    · rw [sameB_false e1] at h1
      rw [if_neg e1]
      clear e1
      go_enter Try.func34, Try.ntmps34
      go_wp2
      go_ret2
      exact ⟨rfl, by repeat (first | exact Below.refl _ _ | apply below_alloc | apply pw_below_drewN | apply below_drew)⟩

theorem zero3 (w : World) : (zeroValue 3).run Try.prog w = .ok (.int .i64 0) w := by kernel_rfl

/-- the ids among which all are -/
def allS (l : List S28) (b : ByteArray) : List ByteArray := b :: idsL l
theorem allS_k {l : List S28} {b : ByteArray} {k : S28} (h : k ∈ l) : k.f0 ∈ allS l b ∧ k.f1 ∈ allS l b := ⟨List.mem_cons_of_mem _ (mem_idsL h).1, List.mem_cons_of_mem _ (mem_idsL h).2⟩
theorem allS_ok {l : List S28} {b : ByteArray} (h : okL l) (hb : okS b) : ∀ x ∈ allS l b, okS x := by
  intro x hx
  rcases List.mem_cons.1 hx with e | e
  · rw [e]; exact hb
  · exact okL_ids h x e
theorem allS_len {l : List S28} {b : ByteArray} (h : l.length ≤ 1000000) : (allS l b).length ≤ 2000001 := by
  have : (idsL l).length = 2 * l.length := by
    induction l with
    | nil => rfl
    | cons k l ih => simp [idsL] at ih ⊢; have := ih (by simp at h; omega); omega
  simp [allS]
  omega

/-- a row that another row's append leaves alone -/
theorem level_kept {w w1 : World} {base B : Nat} {u v v1 : Value} {xs : List ByteArray} (h : Kd.R Kd.string 9 w base (fun k => k ≠ B ∧ some k ≠ v.ownBlock) u xs) (hg : w.grownBy w1 v.ownBlock)
    (hat : v1.ownBlock = v.ownBlock ∨ ∃ b, v1.ownBlock = some b ∧ w.heap.size ≤ b) : Kd.R Kd.string 9 w1 base (fun k => k ≠ B ∧ some k ≠ v1.ownBlock) u xs := by
  have h1 := Kd.R_grown (Kd.R_bound h) hg (fun k hk => hk.1.2)
  refine Kd.R_mono h1 (fun k hk => ⟨hk.1.1, ?_⟩)
  rcases hat with e | ⟨b, e, hb⟩
  · rw [e]; exact hk.1.2
  · rw [e]
    intro e2
    injection e2 with e2
    have := hk.2.2.1
    omega

set_option maxHeartbeats 2000000 in
theorem dist_calls (A0 : Option Addr) (c0 : Nat) (l0 : List S28) (b : ByteArray) (fuel : Nat) (far : Far) (w : World) (hr0 : Kd.C k28 w A0 l0.length l0) (hl : l0.length ≤ 1000000) (hok : okL l0) (hb : okS b)
    (hf : bfs l0 fuel (far0 b) [b] = some far) :
    Calls Try.prog 33 #[.slice A0 l0.length c0, .string b] w fun e w' => e = .returned (.map (some w.heap.size)) ∧ SMap Try.prog 9 w' w.heap.size (allS l0 b).length (iv far) ∧ Below w.heap.size w w' := by
  have hmm := @run_makeMap Try.prog
  have HR0 := Aside0.mk hr0
  have HOK := Aside0.mk (allS_ok hok hb)
  have HN := Aside0.mk (allS_len (b := b) hl)
  have HB0 := Aside0.mk hb
  have HF := Aside0.mk hf
  clear hr0 hok hb hf
  go_enter Try.func33, Try.ntmps33
  go_wp2_with (first | ((with_reducible refine gate_insert _ (t := 52) rfl ?_); refine sstore_one _ rfl _ _ _ 52 (Or.inr rfl) 9 3 Try.underlying9 Try.underlying52 w.heap.size 0 (fun _ => none) rfl (SMap.made w Try.prog 9) (by decide) b (.int .i64 0) rfl rfl HB0.out ?_; intro w1 hs1 hg1 hz1; rw [iv_far0] at hs1; have HS1 := Aside0.mk hs1; have HG1 := Aside0.mk hg1; have HZ1 := Aside0.mk hz1; clear hs1 hg1 hz1))
  have HO0 : Aside0 (Kd.R Kd.string 9 (w1.alloc (.cells #[.string b] 9)) w.heap.size (fun k => k ≠ w.heap.size) (.slice (some ⟨w1.heap.size, 0, none⟩) 1 1) [b]) := ⟨strs_lit w1 w.heap.size _ [b] (by have := HZ1.out; simp at this; omega) (by have := HZ1.out; simp at this; omega) (by simp)⟩
  have HBq : Aside0 (Below w.heap.size w (w1.alloc (.cells #[.string b] 9))) := ⟨(((Below.refl _ _).alloc (Nat.le_refl _) _).grown HG1.out (by simp) (fun j hj => by cases hj; exact Nat.le_refl _)).alloc (by have := HZ1.out; simp at this; omega) _⟩
  have HSq : Aside0 (SMap Try.prog 9 (w1.alloc (.cells #[.string b] 9)) w.heap.size (allS l0 b).length (iv (far0 b))) := ⟨(HS1.out.alloc _).mono (by simp [allS])⟩
  have HE0 : Aside0 (Seen (allS l0 b) (far0 b, [b])) := ⟨seen_start l0 b⟩
  clear HS1 HG1 HZ1
  go_loopg [6] fuel (fun kq v6 wr => ∃ (level : List ByteArray) (fa : Far), Aside0 (bfs l0 kq fa level = some far) ∧ Aside0 (Seen (allS l0 b) (fa, level)) ∧ Aside0 (SMap Try.prog 9 wr w.heap.size (allS l0 b).length (iv fa)) ∧ Aside0 (Kd.R Kd.string 9 wr w.heap.size (fun k => k ≠ w.heap.size) v6 level) ∧ Aside0 (Below w.heap.size w wr))
  case atStart => exact ⟨[b], far0 b, HF, HE0, HSq, HO0, HBq⟩
  case round =>
    clear HF HE0 HSq HO0 HBq
    obtain ⟨level, fa, HF, HE, HS, HO, HB⟩ := hrel
    obtain ⟨A6, c6, e6⟩ := Kd.R_slice HO.out
    subst e6
    cases gk with
    | zero => exact absurd HF.out (by simp [bfs])
    | succ k1 =>
      by_cases hlv : level = []
      · have e1 : fa = far := by have := HF.out; simpa [bfs, hlv] using this
        have HS2 : Aside0 (SMap Try.prog 9 wr w.heap.size (allS l0 b).length (iv far)) := ⟨by rw [← e1]; exact HS.out⟩
        have e2 : level.length = 0 := by rw [hlv]; rfl
        rw [e2]
        clear e1 e2 hlv HS HO HE HF
        go_wp2
        go_ret
        exact ⟨rfl, HS2.out, HB.out⟩
      · have hlen : 0 < level.length := List.length_pos_iff.2 hlv
        have HF2 : Aside0 (bfs l0 k1 (level.foldl (stepI l0) (fa, [])).1 (level.foldl (stepI l0) (fa, [])).2 = some far) := ⟨by have := HF.out; simpa [bfs, hlv] using this⟩
        clear hlv HF
        obtain ⟨wo, rfl⟩ : ∃ wo : World, wo = wr := ⟨_, rfl⟩
        go_wp2_with fail
        have hlvl : level.length ≤ 2000001 := Nat.le_trans HE.out.le HN.out
        have HL0 : Aside0 (Kd.R Kd.string 9 wo w.heap.size (fun k => k ≠ w.heap.size ∧ some k ≠ (Value.slice none 0 0).ownBlock) (.slice A6 level.length c6) level) := ⟨Kd.R_mono HO.out (fun k hk => ⟨hk, by simp [Value.ownBlock]⟩)⟩
        clear HO
        go_loopw [7, 26] (fun v7 v26 wr => ∃ (i : Int) (fb : Far) (nx : List ByteArray), v26 = .int .i64 i ∧ Aside0 (0 ≤ i ∧ i ≤ level.length) ∧ Aside0 ((level.take i.toNat).foldl (stepI l0) (fa, []) = (fb, nx)) ∧ Aside0 (Seen (allS l0 b) (fb, nx)) ∧ Aside0 (SMap Try.prog 9 wr w.heap.size (allS l0 b).length (iv fb)) ∧ Aside0 (Kd.R Kd.string 9 wr w.heap.size (fun k => k ≠ w.heap.size ∧ some k ≠ (Value.slice A6 level.length c6).ownBlock) v7 nx) ∧ Aside0 (Kd.R Kd.string 9 wr w.heap.size (fun k => k ≠ w.heap.size ∧ some k ≠ v7.ownBlock) (.slice A6 level.length c6) level) ∧ Aside0 (Below w.heap.size w wr)) (fun _ v26 _ => level.length - (intOf v26).toNat)
        case atStart => exact ⟨0, fa, [], rfl, ⟨by omega⟩, ⟨by simp⟩, ⟨HE.out.reset⟩, HS, ⟨Kd.R_nil _ _ _ _ _⟩, HL0, HB⟩
        case round =>
          clear HL0 HS HB
          obtain ⟨i, fb, nx, rfl, HI, HFO, HEb, HS, HO, HL, HB⟩ := hrel
          by_cases hlt : i < level.length
          · have p1 : 0 ≤ i := HI.out.1
            obtain ⟨ad, e, hx⟩ := Kd.at_string (Kd.R_reads' HL.out).2.2 i p1 hlt
            have hmx : rdOf ByteArray.empty level i ∈ level := rdS_mem p1 hlt
            obtain ⟨dx, hdx⟩ := HE.out.mem _ hmx
            have HXS := Aside0.mk (HOK.out _ (HE.out.dom _ _ hdx))
            have HNX := Aside0.mk (foldl_nextS (stepI l0) (fa, []) p1 hlt)
            clear hmx hdx dx
            generalize rdOf ByteArray.empty level i = x at hx HXS HNX
            cases e
            obtain ⟨wo2, rfl⟩ : ∃ wo : World, wo = wr := ⟨_, rfl⟩
            have hi0 := hlt
            go_wp2_with fail
            clear hx
            go_loopw [7, 32] (fun v7 v32 wr => ∃ (m : Int) (fc : Far) (ny : List ByteArray), v32 = .int .i64 m ∧ Aside0 (0 ≤ m ∧ m ≤ l0.length) ∧ Aside0 ((l0.take m.toNat).foldl (stepK x) (fb, nx) = (fc, ny)) ∧ Aside0 (Seen (allS l0 b) (fc, ny)) ∧ Aside0 (SMap Try.prog 9 wr w.heap.size (allS l0 b).length (iv fc)) ∧ Aside0 (Kd.R Kd.string 9 wr w.heap.size (fun k => k ≠ w.heap.size ∧ some k ≠ (Value.slice (some ad) level.length c6).ownBlock) v7 ny) ∧ Aside0 (Kd.R Kd.string 9 wr w.heap.size (fun k => k ≠ w.heap.size ∧ some k ≠ v7.ownBlock) (.slice (some ad) level.length c6) level) ∧ Aside0 (Below w.heap.size w wr)) (fun _ v32 _ => l0.length - (intOf v32).toNat)
            case atStart => exact ⟨0, fb, nx, rfl, ⟨by omega⟩, ⟨by simp⟩, HEb, HS, HO, HL, HB⟩
            case round =>
              clear HEb HS HO HL HB
              obtain ⟨m, fc, ny, rfl, HM, HFK, HEc, HS, HO, HL, HB⟩ := hrel
              by_cases hm : m < l0.length
              · have p2 : 0 ≤ m := HM.out.1
                obtain ⟨ad2, e, hx0, hx1, hx2⟩ := at_T28 HR0.out m p2 hm
                cases e
                replace hx0 := (HB.out.cell (World.block_lt_of_cell? w _ hx0)).trans hx0
                replace hx1 := (HB.out.cell (World.block_lt_of_cell? w _ hx1)).trans hx1
                replace hx2 := (HB.out.cell (World.block_lt_of_cell? w _ hx2)).trans hx2
                have HKS := Aside0.mk (allS_k (b := b) (rd_memI p2 hm))
                have HNK := Aside0.mk (foldl_next28 (stepK x) (fb, nx) p2 hm)
                have HBS := Aside0.mk HB.out.size
                generalize rd_T28 l0 m = k at hx0 hx1 hx2 HKS HNK
                have HOA : Aside0 (Below wr.heap.size wr (wr.alloc (.cells #[.string k.f0, .string k.f1, .int .i64 k.f2] 28))) := ⟨(Below.refl _ _).alloc (Nat.le_refl _) _⟩
                cases hoc : otherO k x with
                | none =>
                  have HST : Aside0 ((l0.take (m + 1).toNat).foldl (stepK x) (fb, nx) = (fc, ny)) := ⟨by rw [HNK.out, HFK.out, stepK, hoc]⟩
                  have HOC := Aside0.mk hoc
                  clear hoc
                  go_wp2_with (go_at_call 34; refine (other_calls k x _).mono ?_; rintro e w2 ⟨rfl, hb⟩; rw [HOC.out]; simp only [Option.getD_none, Option.isSome_none]; have HB2 := Aside0.mk (below_then HOA.out (by simp) hb); clear hb)
                  go_roundw
                  case rel => exact ⟨m + 1, fc, ny, rfl, ⟨by omega⟩, HST, HEc, ⟨HS.out.below HB2.out HS.out.lt⟩, ⟨Kd.R_below HO.out HB2.out⟩, ⟨Kd.R_below HL.out HB2.out⟩, ⟨below_then HB.out HBS.out HB2.out⟩⟩
                  case measure => simp [intOf]; omega
                | some y =>
                  have HYS : Aside0 (okS y) := ⟨HOK.out _ (otherO_in hoc HKS.out)⟩
                  have HOC := Aside0.mk hoc
                  cases hfy : fc y with
                  | some d =>
                    have HST : Aside0 ((l0.take (m + 1).toNat).foldl (stepK x) (fb, nx) = (fc, ny)) := ⟨by rw [HNK.out, HFK.out, stepK, hoc]; simp [hfy]⟩
                    have HFY : Aside0 (iv fc y = some (.int .i64 d)) := ⟨by simp [iv, hfy]⟩
                    clear hoc hfy
                    go_wp2_with (first | (go_at_call 34; refine (other_calls k x _).mono ?_; rintro e w2 ⟨rfl, hb⟩; rw [HOC.out]; simp only [Option.getD_some, Option.isSome_some]; have HB2 := Aside0.mk (below_then HOA.out (by simp) hb); clear hb) | (at_lookup; refine slookup_ok _ rfl _ _ 52 rfl 9 3 Try.underlying9 Try.underlying52 _ (zero3 _) w.heap.size _ (iv fc) rfl (HS.out.below HB2.out HS.out.lt) y rfl HYS.out ?_; rw [HFY.out]; simp only [Option.getD_some, Option.isSome_some]))
                    go_roundw
                    case rel => exact ⟨m + 1, fc, ny, rfl, ⟨by omega⟩, HST, HEc, ⟨HS.out.below HB2.out HS.out.lt⟩, ⟨Kd.R_below HO.out HB2.out⟩, ⟨Kd.R_below HL.out HB2.out⟩, ⟨below_then HB.out HBS.out HB2.out⟩⟩
                    case measure => simp [intOf]; omega
                  | none =>
                    have HST : Aside0 ((l0.take (m + 1).toNat).foldl (stepK x) (fb, nx) = (upd fc y (wrap64 ((fc x).getD 0 + 1)), ny ++ [y])) := ⟨by rw [HNK.out, HFK.out, stepK, hoc]; simp [hfy]⟩
                    have HEd : Aside0 (Seen (allS l0 b) (upd fc y (wrap64 ((fc x).getD 0 + 1)), ny ++ [y])) := ⟨by have h1 := HEc.out.stepK x HKS.out.1 HKS.out.2; simp only [stepK, hoc, hfy] at h1; exact h1⟩
                    have HFY : Aside0 (iv fc y = none) := ⟨by simp [iv, hfy]⟩
                    have HVX : Aside0 ((iv fc x).getD (.int .i64 0) = .int .i64 ((fc x).getD 0)) := ⟨by unfold iv; cases fc x <;> rfl⟩
                    have HLB : Aside0 (∀ k, (Value.slice (some ad) level.length c6).ownBlock = some k → k < wr.heap.size) := ⟨own_lt (Kd.own_of_R HL.out)⟩
                    have HNY : Aside0 (ny.length ≤ 2000001) := ⟨Nat.le_trans HEc.out.le HN.out⟩
                    generalize hvd : wrap64 ((fc x).getD 0 + 1) = vd at HST HEd
                    have HVD := Aside0.mk hvd
                    clear hoc hfy hvd
                    go_wp2_with (first | (go_at_call 34; refine (other_calls k x _).mono ?_; rintro e w2 ⟨rfl, hb⟩; rw [HOC.out]; simp only [Option.getD_some, Option.isSome_some]; have HB2 := Aside0.mk (below_then HOA.out (by simp) hb); clear hb) | ((with_reducible refine gate_slot _ (N := 47) rfl ?_); at_lookup; refine slookup_ok _ rfl _ _ 52 rfl 9 3 Try.underlying9 Try.underlying52 _ (zero3 _) w.heap.size _ (iv fc) rfl (HS.out.below HB2.out HS.out.lt) y rfl HYS.out ?_; rw [HFY.out]; simp only [Option.getD_none, Option.isSome_none]) | ((with_reducible refine gate_slot _ (N := 56) rfl ?_); at_lookup; refine slookup_one _ rfl _ _ 52 rfl 9 3 Try.underlying9 Try.underlying52 _ (zero3 _) w.heap.size _ (iv fc) rfl (HS.out.below HB2.out HS.out.lt) x rfl HXS.out ?_; rw [HVX.out]) | (at_mapUpdate; refine sstore_one _ rfl _ _ _ 52 (Or.inl rfl) 9 3 Try.underlying9 Try.underlying52 w.heap.size _ (iv fc) rfl (HS.out.below HB2.out HS.out.lt) (by have := HN.out; unfold maxLen; omega) y (.int .i64 (wrap64 ((fc x).getD 0 + 1))) rfl rfl HYS.out ?_; intro w3 hs3 hg3 hz3; rw [iv_upd, HVD.out] at hs3; have HS3 := Aside0.mk (SMap_bound hs3 Try.underlying9 (allS l0 b) (iv_dom HEd.out)); have HG3 := Aside0.mk hg3; have HZ3 := Aside0.mk hz3; clear hs3 hg3 hz3) | (at_builtin; refine Kd.R_append Kd.string (w0 := w) w.heap.size rfl (.tmp 58) (.tmp 60) 29 9 (.string ⟨#[]⟩) 16 rfl Try.underlying29 info9 rfl (by decide) (by omega) u7 ny y [.string y] (fun k => k ≠ w.heap.size ∧ some k ≠ (Value.slice (some ad) level.length c6).ownBlock) (fun _ => False) rfl ?aX ?aP (fun _ hk => hk.elim) ?aF ?aO ?aB ?aS ?aL ?_))
                    case aX => first | rfl | (go_simp; done)
                    case aP => rfl
                    case aF =>
                      intro q hq
                      have h1 := HZ3.out
                      have h2 := HB2.out.size
                      have h3 := HS.out.lt
                      refine ⟨by omega, fun e => ?_⟩
                      have h4 := HLB.out q e.symm
                      omega
                    case aO => exact Kd.R_grown (Kd.R_below HO.out HB2.out) HG3.out (fun q hq e => hq.1 (by injection e))
                    case aB => exact (below_then HB.out HBS.out HB2.out).grown HG3.out (Nat.le_trans HBS.out HB2.out.size) (fun q hq => by cases hq; exact Nat.le_refl _)
                    case aS => have h1 := HZ3.out; have h2 := HB2.out.size; have h3 := HBS.out; omega
                    case aL => have h1 := HNY.out; omega
                    intro v1 w4 ho hb hg hat
                    have HL4 := Aside0.mk (level_kept (Kd.R_grown (Kd.R_below HL.out HB2.out) HG3.out (fun q hq e => hq.1 (by injection e))) hg hat)
                    have HS4 := Aside0.mk (HS3.out.kept hg (fun e => (HO.out.1 _ e.symm).1 rfl))
                    have HO4 := Aside0.mk ho
                    have HB4 := Aside0.mk hb
                    clear ho hb hg hat
                    go_wp2
                    go_roundw
                    case rel => exact ⟨m + 1, _, _, rfl, ⟨by omega⟩, HST, HEd, HS4, HO4, HL4, HB4⟩
                    case measure => simp [intOf]; omega
              · have hm2 : m = l0.length := by have := HM.out; omega
                have HFI : Aside0 ((level.take (i + 1).toNat).foldl (stepI l0) (fa, []) = (fc, ny)) := ⟨by rw [HNX.out, HFO.out]; have := HFK.out; rw [hm2] at this; simpa [stepI] using this⟩
                clear hm2 HFK
                go_wp2
                go_roundw
                case rel => exact ⟨i + 1, fc, ny, rfl, ⟨by omega⟩, HFI, HEc, HS, HO, HL, HB⟩
                case measure => simp [intOf]; omega
          · have hi2 : i = level.length := by have := HI.out; omega
            have HFI : Aside0 (bfs l0 k1 fb nx = some far) := ⟨by have := HFO.out; rw [hi2] at this; have h2 := HF2.out; simp only [Int.toNat_natCast, List.take_length] at this; rw [this] at h2; exact h2⟩
            clear hi2 HFO HF2 HL
            go_wp2
            go_roundg k1
            case measure => omega
            case rel => exact ⟨nx, fb, HFI, HEb, HS, ⟨Kd.R_mono HO.out (fun k hk => hk.1)⟩, HB⟩
end Go.Proofs.Ytmhcpaohligjaaa.Q
