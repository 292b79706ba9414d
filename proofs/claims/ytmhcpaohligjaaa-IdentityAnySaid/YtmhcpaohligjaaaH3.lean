/-
  The walk of identity.Members. No condition beyond those that stand in it.
-/
import Derived.Test.YtmhcpaohligjaaaH1
import Derived.Test.YtmhcpaohligjaaaS
namespace Go.Proofs.Ytmhcpaohligjaaa.Q
open Go.RowKit Go.Proofs.YtmhcpaohligjaaaW.PrintWords Go.Proofs.YtmhcpaohligjaaaW.PrintLast Go.Proofs.Ytmhcpaohligjaaa.M
set_option linter.unusedVariables false
set_option linter.unusedSimpArgs false

/-- the ids of the first links that belong together with a, and a itself -/
noncomputable def rawP (l : List S28) (a : ByteArray) (i : Nat) : List ByteArray := a :: (idsL (l.take i)).filter fun x => sameB (rootL l x) (rootL l a)
theorem rawP_next {l : List S28} {a : ByteArray} {i : Int} (h0 : 0 ≤ i) (h1 : i < l.length) :
    rawP l a (i + 1).toNat = rawP l a i.toNat ++ [(rd_T28 l i).f0, (rd_T28 l i).f1].filter fun x => sameB (rootL l x) (rootL l a) := by
  have e : (i + 1).toNat = i.toNat + 1 := by omega
  unfold rawP
  rw [e, take_snoc28 (by omega), ← rd_nat h0]
  unfold idsL
  rw [List.flatMap_append, List.filter_append]
  simp
theorem rawP_all (l : List S28) (a : ByteArray) : rawP l a l.length = rawL l a := by unfold rawP rawL; rw [List.take_length]
theorem idsL_length (l : List S28) : (idsL l).length = 2 * l.length := by
  induction l with
  | nil => rfl
  | cons k l ih => simp [idsL] at ih ⊢; omega
theorem rawP_length (l : List S28) (a : ByteArray) (i : Nat) : (rawP l a i).length ≤ 2 * l.length + 1 := by
  unfold rawP
  have h1 := List.length_filter_le (fun x => sameB (rootL l x) (rootL l a)) (idsL (l.take i))
  rw [idsL_length] at h1
  simp at h1 ⊢
  omega
theorem pair_cell {w : World} {g : Nat} {f0 f1 : ByteArray} (h : w.heap[g]? = some (.cells #[.string f0, .string f1] 9 (0, 0))) (j : Int) (h0 : 0 ≤ j) (h1 : j < 2) :
    w.cell? ⟨g, j.toNat, none⟩ = some (.string (rdOf ByteArray.empty [f0, f1] j)) := by
  rw [blk_cell h]
  have : j = 0 ∨ j = 1 := by omega
  rcases this with rfl | rfl <;> rfl
theorem pair_mem {f0 f1 : ByteArray} (j : Int) (h0 : 0 ≤ j) (h1 : j < 2) : rdOf ByteArray.empty [f0, f1] j = f0 ∨ rdOf ByteArray.empty [f0, f1] j = f1 := by
  have : j = 0 ∨ j = 1 := by omega
  rcases this with rfl | rfl
  · exact .inl rfl
  · exact .inr rfl
theorem pair_next {f0 f1 : ByteArray} (p : ByteArray → Bool) (j : Int) (h0 : 0 ≤ j) (h1 : j < 2) :
    ([f0, f1].take (j + 1).toNat).filter p = ([f0, f1].take j.toNat).filter p ++ if p (rdOf ByteArray.empty [f0, f1] j) = true then [rdOf ByteArray.empty [f0, f1] j] else [] := by
  have : j = 0 ∨ j = 1 := by omega
  rcases this with rfl | rfl
  · simp [rdOf, List.filter_cons]
  · by_cases h0 : p f0 = true <;> by_cases h1 : p f1 = true <;> simp [rdOf, List.filter_cons, h0, h1]

set_option maxHeartbeats 1000000 in
theorem identity_Members.calls (A0 : Option Addr) (c0 : Nat) (l0 : List S28) (a1 : ByteArray) (r : List ByteArray) (w : World) (hr0 : Kd.C k28 w A0 l0.length l0) (hc0 : l0.length ≤ c0) (h : identity_Members.f l0 a1 = some r) :
    Calls Try.prog 18 #[.slice A0 l0.length c0, .string a1] w fun e w' => ∃ v0_ : Value, e = .returned (v0_) ∧ Kd.R Kd.string 9 w' w.heap.size (fun _ => True) v0_ r ∧ Below w.heap.size w w' := by
  obtain ⟨⟨⟨hl, hok⟩, h3⟩, rfl⟩ := grd_some h
  obtain ⟨m, hm⟩ := (tree_ofL l0).rootIn a1
  have HOF := Aside0.mk ((tree_ofL l0).okF (okL_ids hok))
  have HM := Aside0.mk hm
  have H3 := Aside0.mk h3
  have HR0 := Aside0.mk hr0
  have HOK := Aside0.mk hok
  have c1 := of_calls A0 c0 l0 w hr0 hl hok
  clear h hok h3 hm hr0
  go_enter Try.func18, Try.ntmps18
  go_wp2_with (first | (go_at_call 31; refine c1.mono ?_; rintro e w1 ⟨rfl, hs, hb⟩; have HS := Aside0.mk hs; have HB := Aside0.mk hb; clear hs hb) | (go_at_call 32; refine (root_calls _ _ m _ _ _ _ HS.out HM.out H3.out HOF.out).mono ?_; rintro e w' ⟨rfl, rfl⟩))
  have HL := Aside0.mk HB.out.size
  have HBS := Aside0.mk HS.out.lt
  generalize hSQ : (w1.alloc (.cells #[.string a1] 9)) = wq
  have HO0 : Aside0 (Kd.R Kd.string 9 wq w.heap.size (fun k => k ≠ w.heap.size) (.slice (some ⟨w1.heap.size, 0, none⟩) 1 1) [a1]) := ⟨by rw [← hSQ]; exact strs_lit w1 w.heap.size _ [a1] HL.out (by have := HBS.out; omega) (by simp)⟩
  have HSq : Aside0 (SMap Try.prog 9 wq w.heap.size l0.length (fv (ofL l0))) := ⟨by rw [← hSQ]; exact HS.out.alloc _⟩
  have HBq : Aside0 (Below w.heap.size w wq) := ⟨by rw [← hSQ]; exact HB.out.alloc HL.out _⟩
  clear hSQ HS HB
  go_loopw [7, 21] (fun v7 v21 wr => ∃ i : Int, v21 = .int .i64 i ∧ Aside0 (0 ≤ i ∧ i ≤ l0.length) ∧ Aside0 (SMap Try.prog 9 wr w.heap.size l0.length (fv (ofL l0))) ∧ Aside0 (Kd.R Kd.string 9 wr w.heap.size (fun k => k ≠ w.heap.size) v7 (rawP l0 a1 i.toNat)) ∧ Aside0 (Below w.heap.size w wr)) (fun _ v21 _ => l0.length - (intOf v21).toNat)
  case atStart => exact ⟨0, rfl, ⟨by omega⟩, HSq, HO0, HBq⟩
  case round =>
    clear HSq HO0 HBq HL HBS
    obtain ⟨i, rfl, HI, HS, HO, HB⟩ := hrel
    by_cases hlt : i < l0.length
    · have p1 : 0 ≤ i := HI.out.1
      obtain ⟨ad, e, hx0, hx1, hx2⟩ := at_T28 HR0.out i p1 hlt
      cases e
      replace hx0 := (HB.out.cell (World.block_lt_of_cell? w _ hx0)).trans hx0
      replace hx1 := (HB.out.cell (World.block_lt_of_cell? w _ hx1)).trans hx1
      replace hx2 := (HB.out.cell (World.block_lt_of_cell? w _ hx2)).trans hx2
      go_wp2_with fail
      have hmem : rd_T28 l0 i ∈ l0 := rd_memI p1 hlt
      have HK0 := Aside0.mk (HOK.out _ hmem)
      have HP1 := Aside0.mk (rawP_next (a := a1) p1 hlt)
      have HBS := Aside0.mk HB.out.size
      have HLT := Aside0.mk HS.out.lt
      clear hmem hx0 hx1 hx2
      generalize (rd_T28 l0 i).f2 = f2
      generalize hf0 : (rd_T28 l0 i).f0 = f0 at HK0 HP1
      generalize hf1 : (rd_T28 l0 i).f1 = f1 at HK0 HP1
      clear hf0 hf1
      generalize hwq : (wr.alloc (.cells #[.string f0, .string f1, .int .i64 f2] 28)).alloc (.cells #[.string f0, .string f1] 9) = wy
      have HX : Aside0 (wy.heap[wr.heap.size + 1]? = some (.cells #[.string f0, .string f1] 9 (0, 0))) := ⟨by rw [← hwq]; have := blk_new (wr.alloc (.cells #[.string f0, .string f1, .int .i64 f2] 28)) (.cells #[.string f0, .string f1] 9); simpa using this⟩
      have HO2 : Aside0 (Kd.R Kd.string 9 wy w.heap.size (fun k => k ≠ w.heap.size ∧ k ≠ wr.heap.size + 1) u7 (rawP l0 a1 i.toNat)) := ⟨by rw [← hwq]; exact Kd.R_alloc (Kd.R_alloc (Kd.R_mono (Kd.R_bound HO.out) (fun k hk => ⟨hk.1, by have := hk.2.2.1; omega⟩)) _) _⟩
      have HS2 : Aside0 (SMap Try.prog 9 wy w.heap.size l0.length (fv (ofL l0))) := ⟨by rw [← hwq]; exact (HS.out.alloc _).alloc _⟩
      have HB2 : Aside0 (Below w.heap.size w wy) := ⟨by rw [← hwq]; exact (HB.out.alloc HBS.out _).alloc (by have := HBS.out; simp; omega) _⟩
      clear hwq HO HS HB
      obtain ⟨G, hG⟩ : ∃ G : Nat, G = wr.heap.size + 1 := ⟨_, rfl⟩
      rw [← hG] at HX HO2 ⊢
      clear hG
      go_loopw [7, 31] (fun v7 v31 wz => ∃ j : Int, v31 = .int .i64 j ∧ Aside0 (0 ≤ j ∧ j ≤ 2) ∧ Aside0 (SMap Try.prog 9 wz w.heap.size l0.length (fv (ofL l0))) ∧ Aside0 (Kd.R Kd.string 9 wz w.heap.size (fun k => k ≠ w.heap.size ∧ k ≠ G) v7 (rawP l0 a1 i.toNat ++ ([f0, f1].take j.toNat).filter fun x => sameB (rootL l0 x) (rootL l0 a1))) ∧ Aside0 (Below w.heap.size w wz) ∧ Aside0 (wz.heap[G]? = some (.cells #[.string f0, .string f1] 9 (0, 0)))) (fun _ v31 _ => 2 - (intOf v31).toNat)
      case atStart => exact ⟨0, rfl, ⟨by omega⟩, HS2, ⟨by simpa using HO2.out⟩, HB2, HX⟩
      case round =>
        clear HX HO2 HS2 HB2
        obtain ⟨j, rfl, HJ, HS, HO, HB, HX⟩ := hrel
        by_cases hj : j < 2
        · have p2 : 0 ≤ j := HJ.out.1
          have hx := pair_cell HX.out j p2 hj
          have HQ := Aside0.mk (pair_next (f0 := f0) (f1 := f1) (fun x => sameB (rootL l0 x) (rootL l0 a1)) j p2 hj)
          have HMM := Aside0.mk (pair_mem (f0 := f0) (f1 := f1) j p2 hj)
          generalize rdOf ByteArray.empty [f0, f1] j = x at hx HQ HMM
          have HKX : Aside0 (okS x) := ⟨by rcases HMM.out with e | e; · rw [e]; exact HK0.out.1
                                           · rw [e]; exact HK0.out.2⟩
          obtain ⟨mx, hmx⟩ := (tree_ofL l0).rootIn x
          have HMX := Aside0.mk hmx
          have HGW := Aside0.mk (blk_lt HX.out)
          have HBS2 := Aside0.mk HB.out.size
          have HE := Aside0.mk (toList_beq (rootC (ofL l0) x) (rootC (ofL l0) a1))
          clear hmx HMM
          by_cases hsame : sameB (rootL l0 x) (rootL l0 a1) = true
          · have he : ((rootC (ofL l0) x).toList == (rootC (ofL l0) a1).toList) = true := HE.out.trans hsame
            have HN := Aside0.mk hsame
            clear hsame
            go_wp2_with (first | (go_at_call 32; refine (root_calls _ _ mx _ _ _ _ HS.out HMX.out HKX.out HOF.out).mono ?_; rintro e w' ⟨rfl, rfl⟩) | (at_builtin; refine Kd.R_append Kd.string (w0 := w) w.heap.size rfl (.tmp 40) (.tmp 42) 29 9 (.string ⟨#[]⟩) 16 rfl Try.underlying29 info9 rfl (by decide) (by omega) u7 (rawP l0 a1 i.toNat ++ ([f0, f1].take j.toNat).filter fun x => sameB (rootL l0 x) (rootL l0 a1)) x [.string x] (fun k => k ≠ w.heap.size ∧ k ≠ G) (fun _ => False) rfl ?aX ?aP (fun _ hk => hk.elim) ?aF ?aO ?aB ?aS ?aL ?_))
            case aX => first | rfl | (go_simp; done)
            case aP => rfl
            case aF => intro k hk; have := HGW.out; have := HS.out.lt; constructor <;> omega
            case aO => exact HO.out
            case aB => exact HB.out
            case aS => exact HBS2.out
            case aL => have h1 := rawP_length l0 a1 i.toNat; have h2 := List.length_filter_le (fun x => sameB (rootL l0 x) (rootL l0 a1)) ([f0, f1].take j.toNat); simp at h1 h2 ⊢; omega
            intro v1 w2 ho hb hg hat
            have HO1 := Aside0.mk ho
            have HB1 := Aside0.mk hb
            have HS1 := Aside0.mk (HS.out.kept hg (fun e => (HO.out.1 _ e.symm).1 rfl))
            have HX1 := Aside0.mk (blk_grown HX.out hg (fun e => (HO.out.1 _ e.symm).2 rfl))
            clear ho hb hg hat
            go_wp2
            go_roundw
            case rel => exact ⟨j + 1, rfl, ⟨by omega⟩, HS1, ⟨by rw [HQ.out, if_pos HN.out]; simpa using HO1.out⟩, HB1, HX1⟩
            case measure => simp [intOf]; omega
          · have he : ((rootC (ofL l0) x).toList == (rootC (ofL l0) a1).toList) = false := HE.out.trans (show sameB (rootL l0 x) (rootL l0 a1) = false from by simpa using hsame)
            have HN := Aside0.mk hsame
            clear hsame
            go_wp2_with (go_at_call 32; refine (root_calls _ _ mx _ _ _ _ HS.out HMX.out HKX.out HOF.out).mono ?_; rintro e w' ⟨rfl, rfl⟩)
            go_roundw
            case rel => exact ⟨j + 1, rfl, ⟨by omega⟩, HS, ⟨by rw [HQ.out, if_neg HN.out, List.append_nil]; exact HO.out⟩, HB, HX⟩
            case measure => simp [intOf]; omega
        · have hj2 : j = 2 := by have := HJ.out; omega
          have HO2 : Aside0 (Kd.R Kd.string 9 wr w.heap.size (fun k => k ≠ w.heap.size) u7 (rawP l0 a1 (i + 1).toNat)) := ⟨by rw [HP1.out]; have := HO.out; rw [hj2] at this; exact Kd.R_mono (ok := fun k => k ≠ w.heap.size ∧ k ≠ G) (by simpa using this) (fun k hk => hk.1)⟩
          clear HO hj2 HX
          go_wp2
          go_roundw
          case rel => exact ⟨i + 1, rfl, ⟨by omega⟩, HS, HO2, HB⟩
          case measure => simp [intOf]; omega
    · have hi : i = l0.length := by have := HI.out; omega
      have HO2 : Aside0 (Kd.R Kd.string 9 wr w.heap.size (fun k => k ≠ w.heap.size) u7 (rawL l0 a1)) := ⟨by have := HO.out; rw [hi] at this; simpa [rawP_all] using this⟩
      clear HS hi HO
      have hlen : (rawL l0 a1).length ≤ 1000000000 := by rw [← rawP_all]; have := rawP_length l0 a1 l0.length; omega
      have c2 := sort_row u7 _ wr _ _ HO2.out hlen
      go_wp2_with (first | (go_at_call 35; refine c2.mono ?_; rintro e w2 ⟨rfl, ho, hg⟩; have HO3 := Aside0.mk ho; have HG3 := Aside0.mk hg; clear ho hg) | (go_at_call 36; refine (compact_row u7 _ _ _ _ HO3.out (by rw [sb_length, List.length_mergeSort, bs_length]; exact hlen)).mono ?_; rintro e w3 ⟨v3, rfl, ho, hg⟩; have HO4 := Aside0.mk ho; have HG4 := Aside0.mk hg; clear ho hg))
      go_ret
      have hb2 := HB.out.grown HG3.out HB.out.size (own_base (Kd.own_of_R HO2.out))
      exact ⟨_, rfl, Kd.R_mono (by have := HO4.out; rw [bs_sb] at this; exact this) (fun _ _ => trivial), hb2.grown HG4.out hb2.size (own_base (Kd.own_of_R HO3.out))⟩
end Go.Proofs.Ytmhcpaohligjaaa.Q
