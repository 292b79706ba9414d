/-
  The walk of graph.reach. A condition: few edges, texts no longer than a text can be.
-/
import Derived.Test.YtkmcepeejleahaaD3
import Derived.Outline
namespace Go.Proofs.Ytkmcepeejleahaa.Q
open Go.RowKit Go.Proofs.YtkmcepeejleahaaW.PrintWords Go.Proofs.YtkmcepeejleahaaW.PrintLast Go.Proofs.Ytkmcepeejleahaa.M
set_option linter.unusedVariables false
set_option linter.unusedSimpArgs false

theorem needs_reach {es : List S40} {a x : ByteArray} {seen : Seen} {pre : List ByteArray} (h : St es a seen (pre ++ [x])) : ∀ m ∈ needsL es x, Reach es a m := by
  intro m hm
  obtain ⟨e, he, h1, h2⟩ := mem_needs.1 hm
  rw [← h2]
  rcases h.opn x (by simp) with e1 | e1
  · exact .one he (h1.trans e1)
  · exact .more (h1 ▸ e1) he
theorem half_sub {es : List S40} {a x : ByteArray} {seen s' : Seen} {pre o' : List ByteArray} {j : Nat} (h : St es a seen (pre ++ [x])) (hf : ((needsL es x).take j).foldl scanD (seen, pre) = (s', o')) : ∀ y, s' y = true → Reach es a y := by
  have h1 := (scan_St ((needsL es x).take j) (seen, pre) (fun m hm => needs_reach h m (List.mem_of_mem_take hm)) h.sub (fun y hy => h.opn y (by simp [hy]))).1
  rw [hf] at h1
  exact h1
theorem half_left {es : List S40} {x : ByteArray} {seen s' : Seen} {pre o' : List ByteArray} {j : Nat} (hf : ((needsL es x).take j).foldl scanD (seen, pre) = (s', o')) : left es s' o' + 1 ≤ left es seen (pre ++ [x]) := by
  have h1 := fold_left (es := es) ((needsL es x).take j) (seen, pre) (fun m hm => by
    obtain ⟨e, he, _, h2⟩ := mem_needs.1 (List.mem_of_mem_take hm)
    exact ⟨e, he, h2⟩)
  rw [hf] at h1
  unfold left at h1 ⊢
  simp only [List.length_append, List.length_singleton] at h1 ⊢
  omega
theorem okS_needs {es : List S40} (h : okE es) {x m : ByteArray} (hm : m ∈ needsL es x) : okS m := by
  obtain ⟨e, he, _, h2⟩ := mem_needs.1 hm
  rw [← h2]
  exact (h e he).2
theorem okS_open {es : List S40} {a : ByteArray} {seen : Seen} {o : List ByteArray} (h : okE es) (ha : okS a) (hs : St es a seen o) : ∀ x ∈ o, okS x := by
  intro x hx
  rcases hs.opn x hx with e | e
  · rw [e]; exact ha
  · cases e with
    | one he _ => exact (h _ he).2
    | more _ he => exact (h _ he).2

set_option maxHeartbeats 2000000 in
theorem reach_calls (base b n : Nat) (p : ByteArray → Option Value) (es : List S40) (a : ByteArray) (w : World) (hN : NMap w base b n p es) (hl : es.length ≤ 1000000) (hok : okE es) (ha : okS a) :
    Calls Try.prog 33 #[.map (some b), .string a] w fun e w' => ∃ seen : Seen, e = .returned (.map (some w.heap.size)) ∧ SMap Try.prog 9 w' w.heap.size es.length (bv seen) ∧ (∀ x, seen x = true ↔ Reach es a x) ∧ Below w.heap.size w w' := by
  have hmm := @run_makeMap Try.prog
  have HN := Aside0.mk hN
  have HOK := Aside0.mk hok
  have HA := Aside0.mk ha
  have HBW := Aside0.mk hN.lt
  clear hN hok ha
  go_enter Try.func33, Try.ntmps33
  go_wp2
  generalize hwq : ((w.alloc (.map #[] 0)).alloc (.cells #[.string a] 9)) = wq
  have HO0 : Aside0 (Kd.R Kd.string 9 wq w.heap.size (fun k => k ≠ w.heap.size) (.slice (some ⟨w.heap.size + 1, 0, none⟩) 1 1) [a]) := ⟨by
    rw [← hwq]
    have := strs_lit (w.alloc (.map #[] 0)) w.heap.size (fun k => k ≠ w.heap.size) [a] (by simp) (by simp) (by simp)
    rw [show (w.alloc (.map #[] 0)).heap.size = w.heap.size + 1 by simp] at this
    exact this⟩
  have HS0 : Aside0 (SMap Try.prog 9 wq w.heap.size es.length (bv fun _ => false)) := ⟨by
    rw [← hwq]
    exact ((SMap.made w Try.prog 9).alloc _).mono (Nat.zero_le _)⟩
  have HB0 : Aside0 (Below w.heap.size w wq) := ⟨by rw [← hwq]; exact ((Below.refl _ _).alloc (Nat.le_refl _) _).alloc (by simp) _⟩
  clear hwq
  go_loopg [6] (fuelE es) (fun kq v6 wr => ∃ (op : List ByteArray) (seen : Seen), Aside0 (St es a seen op) ∧ Aside0 (left es seen op < kq ∧ kq ≤ fuelE es) ∧ Aside0 (SMap Try.prog 9 wr w.heap.size es.length (bv seen)) ∧ Aside0 (Kd.R Kd.string 9 wr w.heap.size (fun k => k ≠ w.heap.size) v6 op) ∧ Aside0 (Below w.heap.size w wr))
  case atStart =>
    refine ⟨[a], fun _ => false, ⟨St.start es a⟩, ⟨?_, Nat.le_refl _⟩, HS0, HO0, HB0⟩
    unfold left fuelE
    have h1 := List.countP_le_length (p := fun _ : S40 => !false) (l := es)
    show 2 * (es.countP fun _ => !false) + 1 < 2 * es.length + 2
    omega
  case round =>
    clear HS0 HO0 HB0
    obtain ⟨op, seen, HT, HLF, HS, HO, HB⟩ := hrel
    obtain ⟨A6, c6, e6⟩ := Kd.R_slice HO.out
    subst e6
    obtain ⟨k1, rfl⟩ : ∃ k1, gk = k1 + 1 := ⟨gk - 1, by have := HLF.out; omega⟩
    rcases List.eq_nil_or_concat op with rfl | ⟨pre, x, hop⟩
    · have hd := Aside0.mk (St.done HT.out)
      go_wp2
      go_ret
      exact ⟨seen, rfl, HS.out, hd.out, HB.out⟩
    · have hop : op = pre ++ [x] := by simpa using hop
      subst hop
      have HX : Aside0 (okS x) := ⟨okS_open HOK.out HA.out HT.out x (by simp)⟩
      obtain ⟨g, cap, eform, hg1, hg2, cells, hgc⟩ := Kd.R_form HO.out (by simp)
      cases eform
      have hcx := (Kd.R_cell ByteArray.empty HO.out (pre.length : Int) (by omega) (by simp; omega)).1
      have hxe : rdOf ByteArray.empty (pre ++ [x]) (pre.length : Int) = x := by simp [rdOf]
      rw [hxe] at hcx
      have hlen : (pre ++ [x]).length = pre.length + 1 := by simp
      have HPL : Aside0 (pre.length ≤ 2 * es.length + 2) := ⟨by have h1 := HLF.out; unfold left fuelE at h1; simp at h1; omega⟩
      have HP : Aside0 (Kd.R Kd.string 9 wr w.heap.size (fun k => k ≠ w.heap.size) (.slice (some ⟨g, 0, none⟩) pre.length c6) pre) := ⟨R_cut HO.out (by simp)⟩
      have hpl := HPL.out
      have HRW := Aside0.mk (HN.out.row x)
      obtain ⟨A29, c29, e29⟩ := Kd.R_slice HRW.out
      have HV := Aside0.mk e29
      have HCR : Aside0 (Kd.C Kd.string w A29 (needsL es x).length (needsL es x)) := ⟨by have := HRW.out; rw [e29] at this; exact (Kd.R_reads' this).2.2⟩
      have hnl := needsL_length es x
      have hc6 : pre.length ≤ c6 := (Kd.R_reads' HP.out).2.1
      clear hxe e29 hgc hg1 hg2
      rw [hlen]
      clear hlen
      simp only [Int.toNat_natCast] at hcx
      obtain ⟨wo, rfl⟩ : ∃ wo : World, wo = wr := ⟨_, rfl⟩
      go_wp2_with ((at_lookup; refine slookup_one _ rfl _ _ 52 rfl 9 23 Try.underlying9 Try.underlying52 _ (zero23 _) b n p rfl (MapIs.below HN.out.map HB.out HBW.out) x rfl HX.out ?_; rw [HV.out]))
      clear hcx hc6 HO
      go_loopw [6, 31] (fun v6 v31 wr => ∃ (j : Int) (s' : Seen) (o' : List ByteArray), v31 = .int .i64 j ∧ Aside0 (0 ≤ j ∧ j ≤ (needsL es x).length) ∧ Aside0 (((needsL es x).take j.toNat).foldl scanD (seen, pre) = (s', o')) ∧ Aside0 (SMap Try.prog 9 wr w.heap.size es.length (bv s')) ∧ Aside0 (Kd.R Kd.string 9 wr w.heap.size (fun k => k ≠ w.heap.size) v6 o') ∧ Aside0 (Below w.heap.size w wr)) (fun _ v31 _ => (needsL es x).length - (intOf v31).toNat)
      case atStart => exact ⟨0, seen, pre, rfl, ⟨by omega⟩, ⟨by simp⟩, HS, HP, HB⟩
      case round =>
        clear HS HP HB
        obtain ⟨j, s', o', rfl, HJ, HFO, HS, HO, HB⟩ := hrel
        obtain ⟨A6, c6', e6⟩ := Kd.R_slice HO.out
        by_cases hj : j < (needsL es x).length
        · have p1 : 0 ≤ j := HJ.out.1
          obtain ⟨ad, e, hx⟩ := Kd.at_string HCR.out j p1 hj
          cases e
          replace hx := (HB.out.cell (World.block_lt_of_cell? w _ hx)).trans hx
          have HMM := Aside0.mk (rdS_mem p1 hj)
          have HNX := Aside0.mk (foldl_nextS scanD (seen, pre) p1 hj)
          generalize rdOf ByteArray.empty (needsL es x) j = m at hx HMM HNX
          have HMS := Aside0.mk (okS_needs HOK.out HMM.out)
          have HOL : Aside0 (o'.length ≤ 2 * es.length + 2) := ⟨by have h1 := half_left HFO.out; have h2 := HLF.out; unfold fuelE at h2; unfold left at h1 h2; omega⟩
          have HE := Aside0.mk (bv_get s' m)
          cases hs' : s' m with
          | true =>
            have HQ : Aside0 ((bv s' m).getD (.bool false) = .bool true) := ⟨by rw [HE.out, hs']⟩
            have HST : Aside0 (((needsL es x).take (j + 1).toNat).foldl scanD (seen, pre) = (s', o')) := ⟨by rw [HNX.out, HFO.out, scanD, if_pos hs']⟩
            clear hs' e6
            go_wp2_with ((at_lookup; refine slookup_one _ rfl _ _ 53 rfl 9 4 Try.underlying9 Try.underlying53 _ (zero4 _) w.heap.size _ (bv s') rfl HS.out m rfl HMS.out ?_; rw [HQ.out]))
            go_roundw
            case rel => exact ⟨j + 1, s', o', rfl, ⟨by omega⟩, HST, HS, HO, HB⟩
            case measure => simp [intOf]; omega
          | false =>
            have HQ : Aside0 ((bv s' m).getD (.bool false) = .bool false) := ⟨by rw [HE.out, hs']⟩
            have HST : Aside0 (((needsL es x).take (j + 1).toNat).foldl scanD (seen, pre) = (mark s' m, o' ++ [m])) := ⟨by rw [HNX.out, HFO.out, scanD, if_neg (by simp [hs'])]⟩
            have HDM : Aside0 (∀ y, mark s' m y = true → Reach es a y) := ⟨half_sub HT.out HST.out⟩
            clear hs' e6
            go_wp2_with (first | (at_lookup; refine slookup_one _ rfl _ _ 53 rfl 9 4 Try.underlying9 Try.underlying53 _ (zero4 _) w.heap.size _ (bv s') rfl HS.out m rfl HMS.out ?_; rw [HQ.out]) | (at_mapUpdate; refine sstore_one _ rfl _ _ _ 53 (Or.inl rfl) 9 4 Try.underlying9 Try.underlying53 w.heap.size _ (bv s') rfl HS.out (by unfold maxLen; omega) m (.bool true) rfl rfl HMS.out ?_; intro w3 hs3 hg3 hz3; rw [bv_mark] at hs3; have HS3 : Aside0 (SMap Try.prog 9 w3 w.heap.size es.length (bv (mark s' m))) := ⟨by have := SMap_bound hs3 Try.underlying9 (es.map (·.f1)) (bv_dom HDM.out); simpa using this⟩; have HG3 := Aside0.mk hg3; have HZ3 := Aside0.mk hz3; clear hs3 hg3 hz3) | (at_builtin; refine Kd.R_append Kd.string (w0 := w) w.heap.size rfl (.tmp 41) (.tmp 43) 23 9 (.string ⟨#[]⟩) 16 rfl Try.underlying23 info9 rfl (by decide) (by omega) u6 o' m [.string m] (fun k => k ≠ w.heap.size) (fun _ => False) rfl ?aX ?aP (fun _ hk => hk.elim) ?aF ?aO ?aB ?aS ?aL ?_))
            case aX => first | rfl | (go_simp; done)
            case aP => rfl
            case aF =>
              intro q hq
              have h1 := HZ3.out
              have h3 := HS3.out.lt
              omega
            case aO => exact Kd.R_grown HO.out HG3.out (fun q hq e => hq (by injection e))
            case aB => exact HB.out.grown HG3.out HB.out.size (fun q hq => by cases hq; exact Nat.le_refl _)
            case aS => have h1 := HZ3.out; have h2 := HB.out.size; omega
            case aL => have h1 := HOL.out; omega
            intro v1 w4 ho hb hg hat
            have HS4 := Aside0.mk (HS3.out.kept hg (fun e => (HO.out.1 _ e.symm) rfl))
            have HO4 := Aside0.mk ho
            have HB4 := Aside0.mk hb
            clear ho hb hg hat
            go_wp2
            go_roundw
            case rel => exact ⟨j + 1, _, _, rfl, ⟨by omega⟩, HST, HS4, HO4, HB4⟩
            case measure => simp [intOf]; omega
        · have hj2 : j = (needsL es x).length := by have := HJ.out; omega
          have HFI : Aside0 ((needsL es x).foldl scanD (seen, pre) = (s', o')) := ⟨by have := HFO.out; rw [hj2] at this; simpa using this⟩
          have HT2 : Aside0 (St es a s' o') := ⟨by have := HT.out.next (n := x) (by simp); rw [List.dropLast_concat, HFI.out] at this; exact this⟩
          have HL2 : Aside0 (left es s' o' < k1 ∧ k1 ≤ fuelE es) := ⟨by have h1 := half_left (j := (needsL es x).length) (x := x) (es := es) (by rw [List.take_length, HFI.out]); have h2 := HLF.out; omega⟩
          clear hj2 HFI HFO e6
          go_wp2
          go_roundg k1
          case measure => omega
          case rel => exact ⟨o', s', HT2, HL2, HS, HO, HB⟩
end Go.Proofs.Ytkmcepeejleahaa.Q
