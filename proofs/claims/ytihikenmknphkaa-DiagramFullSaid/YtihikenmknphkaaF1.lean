/-
  Diagrams: the walk of DiagramFull. No condition beyond those that stand in it.
-/
import Derived.Test.YtihikenmknphkaaL2
namespace Go.Proofs.Ytihikenmknphkaa.Q
open Go Go.RowKit Go.Maps Go.Proofs.YtihikenmknphkaaW.PrintWords Go.Proofs.YtihikenmknphkaaW.PrintLast Go.Proofs.YtihikenmknphkaaW.PrintMore Go.Proofs.Ytihikenmknphkaa.M
set_option linter.unusedVariables false
set_option linter.unusedSimpArgs false

def fnode (i : Nat) : N39 := ⟨1000 - ((i / 7 : Nat) : Int), -2 - ((i % 7 : Nat) : Int), -1⟩
def fullL (n : Nat) : List N39 := (List.range n).map fnode
theorem fullL_length (n : Nat) : (fullL n).length = n := by unfold fullL; simp
theorem fullL_succ (n : Nat) : fullL (n + 1) = fullL n ++ [fnode n] := by unfold fullL; rw [List.range_succ, List.map_append]; rfl
theorem top_leaf {ns : List N39} {y : Int} (h : y < 0) : topN ns y = 1001 := by unfold topN; rw [if_pos h]
theorem fnode_inj {i j : Nat} (h : fnode i = fnode j) : i = j := by
  unfold fnode at h
  injection h with h1 h2 h3
  omega
theorem full_fresh (n : Nat) : findN (fullL n) (fnode n) = none := by
  unfold findN
  rw [List.findIdx?_eq_none_iff]
  intro x hx
  unfold fullL at hx
  rw [List.mem_map] at hx
  obtain ⟨i, hi, rfl⟩ := hx
  rw [List.mem_range] at hi
  simp only [decide_eq_false_iff_not]
  intro e
  have := fnode_inj e
  omega
theorem full_refuses {ns : List N39} {t y : Int} (ht0 : 0 ≤ t) (ht1 : t ≤ 1000) (hy0 : -1002 < y) (hy1 : y < 0) : refuses ns t y (-1) = false :=
  refuses_iff.2 ⟨⟨ht0, ht1⟩, valid_iff.2 (by omega), valid_iff.2 (by omega), by rw [top_leaf hy1]; omega, by rw [top_leaf (by omega)]; omega⟩
theorem full_node {n : Nat} (hn : n < 4000) : nodeF (fullL n) (1000 - ((n / 7 : Nat) : Int)) (-2 - ((n % 7 : Nat) : Int)) (-1) = some (fullL (n + 1), (n : Int)) := by
  unfold nodeF
  rw [full_refuses (by omega) (by omega) (by omega) (by omega), if_neg (by simp), if_neg (by omega), show findN (fullL n) ⟨1000 - ((n / 7 : Nat) : Int), -2 - ((n % 7 : Nat) : Int), -1⟩ = none from full_fresh n]
  simp only
  rw [if_neg (by rw [fullL_length]; omega), fullL_succ, fullL_length]
  rfl
theorem full_wf : ∀ n, n ≤ 4000 → WF (fullL n)
  | 0, _ => WF.nil
  | n + 1, h => (nodeF_ok (full_wf n (by omega)) (full_node (by omega))).1
theorem full_again : nodeF (fullL 4000) 1000 (-2) (-1) = some (fullL 4000, 0) := by
  unfold nodeF
  rw [full_refuses (by omega) (by omega) (by omega) (by omega), if_neg (by simp), if_neg (by omega)]
  have h : findN (fullL 4000) ⟨1000, -2, -1⟩ = some 0 := by
    have : fullL 4000 = fnode 0 :: (List.range 3999).map (fnode ∘ Nat.succ) := by
      unfold fullL
      rw [show 4000 = 3999 + 1 from rfl, List.range_succ_eq_map, List.map_cons, List.map_map]
    rw [this]
    unfold findN
    rw [List.findIdx?_cons]
    simp [fnode]
  rw [h]
  rfl
theorem full_more (i : Int) (h0 : 0 ≤ i) (h1 : i < 4) : refuses (fullL 4000) 0 (-900 - i) (-1) = false ∧ findN (fullL 4000) ⟨0, -900 - i, -1⟩ = none := by
  refine ⟨full_refuses (by omega) (by omega) (by omega) (by omega), ?_⟩
  unfold findN
  rw [List.findIdx?_eq_none_iff]
  intro x hx
  unfold fullL at hx
  rw [List.mem_map] at hx
  obtain ⟨j, hj, rfl⟩ := hx
  rw [List.mem_range] at hj
  simp only [decide_eq_false_iff_not]
  intro e
  unfold fnode at e
  injection e with e1 e2 e3
  omega
theorem full_run : runG (fullL 4000) 0 [] = 0 := by
  unfold runG
  rw [if_pos (valid_iff.2 (by rw [fullL_length]; omega)), fullL_length]
  have h0 : rd_T39 (fullL 4000) 0 = fnode 0 := by
    have := rd_nat39 (ns := fullL 4000) (i := 0) (by rw [fullL_length]; omega)
    rw [show ((0 : Nat) : Int) = 0 from rfl] at this
    rw [this]
    unfold fullL
    simp
  unfold runF
  rw [if_neg (by omega), h0]
  rw [show holdsB [] (fnode 0).f0 = false by unfold holdsB fnode; simp, if_neg (by simp), show (fnode 0).f2 = -1 by rfl, runF_leaf (by omega)]
  rfl
theorem One.full {B : Nat} {w : World} {S : Nat} {ns : List N39} {full : Bool} (h : One 58 B w S ns full) : Calls Try.prog 11 #[.pointer (some ⟨S, 0, none⟩)] w fun e w' => e = .returned (.bool full) ∧ w = w' := by
  obtain ⟨m, v, h1, _⟩ := h
  exact fullP_calls ns S m v full w h1

set_option maxRecDepth 100000 in
set_option maxHeartbeats 16000000 in
theorem full_calls (w : World) (a0 : Int) (w0 : (Lit.int .i64 a0).wf = true) :
    Calls Try.prog 5 #[.int .i64 a0] w fun e w' => e = .returned (.bool true) ∧ Below w.heap.size w w' := by
  obtain ⟨m0, hm0, b0, c0⟩ := mod_ev (a := a0) (n := 4) (by omega) (by omega)
  have HM0 := Aside0.mk hm0
  clear hm0 w0
  go_enter Try.func5, Try.ntmps5
  go_wp2_with (first
    | (go_at_call 9; refine (awake_calls w).mono ?_; rintro e wa ⟨rfl, hb⟩; have HBA := Aside0.mk hb; clear hb)
    | (go_at_call 22; refine (One.newP w.heap.size wa HBA.out.size).mono ?_; rintro e wb ⟨S, rfl, h1, hb⟩; have HS := Aside0.mk h1; have HB := Aside0.mk (below_then HBA.out HBA.out.size hb); clear h1 hb))
  obtain ⟨wl, hwl⟩ : ∃ wl : World, wl = wb := ⟨_, rfl⟩
  subst hwl
  clear HBA
  go_loopw [4, 5] (fun v4 v5 wr => ∃ (k n : Nat), v4 = .int .i64 (n : Int) ∧ v5 = .int .i64 (1000 - (k : Int)) ∧ Aside0 (n = min (7 * k) 4000 ∧ k ≤ 572) ∧ Aside0 (One 58 w.heap.size wr S (fullL n) false) ∧ Aside0 (Below w.heap.size w wr)) (fun v4 v5 _ => (intOf v5).toNat)
  case atStart => exact ⟨0, 0, rfl, rfl, ⟨by omega⟩, HS, HB⟩
  case round =>
    clear HS HB
    obtain ⟨k, n, rfl, rfl, HKN, HS, HB⟩ := hrel
    have hk572 := HKN.out.2
    have dt : decide (0 ≤ 1000 - (k : Int)) = true := by simp; omega
    by_cases hn : (n : Int) < 4000
    · have dn : decide ((n : Int) < 4000) = true := by simpa using hn
      obtain ⟨wo, rfl⟩ : ∃ wo : World, wo = wr := ⟨_, rfl⟩
      go_wp2
      go_loopw [4, 6] (fun v4 v6 wr => ∃ (l n : Nat), v4 = .int .i64 (n : Int) ∧ v6 = .int .i64 (l : Int) ∧ Aside0 (n = min (7 * k + (l - 1)) 4000 ∧ 1 ≤ l ∧ l ≤ 8) ∧ Aside0 (One 58 w.heap.size wr S (fullL n) false) ∧ Aside0 (Below w.heap.size w wr)) (fun v4 v6 _ => 8 - (intOf v6).toNat)
      case atStart => exact ⟨1, n, rfl, rfl, ⟨by have := HKN.out; omega⟩, HS, HB⟩
      case round =>
        have hk7 : 7 * k < 4000 := by have := HKN.out; omega
        clear HS HB hn dn
        obtain ⟨l, n, rfl, rfl, HLN, HS, HB⟩ := hrel
        have hl8 := HLN.out.2
        by_cases hl : (l : Int) < 8
        · have dl : decide ((l : Int) < 8) = true := by simpa using hl
          by_cases hn : (n : Int) < 4000
          · have dn : decide ((n : Int) < 4000) = true := by simpa using hn
            have hnn : n = 7 * k + (l - 1) := by have := HLN.out; omega
            have e1 : 1000 - (k : Int) = 1000 - ((n / 7 : Nat) : Int) := by omega
            have e2 : -1 - (l : Int) = -2 - ((n % 7 : Nat) : Int) := by omega
            have HN := Aside0.mk (show nodeF (fullL n) (1000 - (k : Int)) (-1 - (l : Int)) (-1) = some (fullL (n + 1), (n : Int)) by rw [e1, e2]; exact full_node (by omega))
            have HL2 : Aside0 (n + 1 = min (7 * k + (l + 1 - 1)) 4000) := ⟨by omega⟩
            have qn : ((n : Int) != (n : Int)) = false := by simp
            clear hnn e1 e2
            obtain ⟨wo2, rfl⟩ : ∃ wo2 : World, wo2 = wr := ⟨_, rfl⟩
            go_wp2_with (go_at_call 18; refine (HS.out.call (fun m v hS => nodeP_calls S m v _ _ false _ _ _ _ _ hS HN.out)).mono ?_; rintro e w5 ⟨rfl, h1, hb⟩; have HS1 := Aside0.mk h1; have HB1 := Aside0.mk (HB.out.trans hb); clear h1 hb)
            go_roundw
            case measure => simp [intOf]; omega
            case rel => exact ⟨l + 1, n + 1, rfl, rfl, ⟨HL2.out, by omega, by omega⟩, HS1, HB1⟩
          · have dn : decide ((n : Int) < 4000) = false := by simpa using hn
            go_wp2
            go_roundw
            case measure => simp [intOf]; omega
            case rel => exact ⟨k + 1, n, rfl, by congr 1; omega, ⟨by have := HLN.out; omega, by omega⟩, HS, HB⟩
        · have dl : decide ((l : Int) < 8) = false := by simpa using hl
          go_wp2
          go_roundw
          case measure => simp [intOf]; omega
          case rel => exact ⟨k + 1, n, rfl, by congr 1; omega, ⟨by have := HLN.out; omega, by omega⟩, HS, HB⟩
    · have dn : decide ((n : Int) < 4000) = false := by simpa using hn
      have hn4 : n = 4000 := by have := HKN.out; omega
      subst hn4
      clear HKN
      have d4 : decide (((4000 : Nat) : Int) < 4000) = false := by decide
      go_wp2_with (first
        | (go_at_call 23; refine (flagstonedraw_Mod.calls a0 4 m0 wr HM0.out).mono ?_; rintro e wc ⟨rfl, hd⟩; have HS1 := Aside0.mk (HS.out.below hd.below); have HB1 := Aside0.mk (below_then HB.out HB.out.size hd.below); clear hd)
        | (go_at_call 11; refine HS1.out.full.mono ?_; rintro e w' ⟨rfl, rfl⟩)
        | (go_at_call 18; refine (HS1.out.call (fun m v hS => nodeP_calls S m v _ _ false _ _ _ _ _ hS full_again)).mono ?_; rintro e wd ⟨rfl, h1, hb⟩; have HS2 := Aside0.mk h1; have HB2 := Aside0.mk (HB1.out.trans hb); clear h1 hb))
      obtain ⟨we, hwe⟩ : ∃ we : World, we = wd := ⟨_, rfl⟩
      subst hwe
      clear HS HB HS1 HB1 dt dn d4
      go_loopw [8] (fun v8 wr => ∃ i : Int, v8 = .int .i64 i ∧ Aside0 (0 ≤ i ∧ i ≤ m0) ∧ Aside0 (One 58 w.heap.size wr S (fullL 4000) (decide (0 < i))) ∧ Aside0 (Below w.heap.size w wr)) (fun v8 _ => m0.toNat - (intOf v8).toNat)
      case atStart => exact ⟨0, rfl, ⟨by omega⟩, ⟨by simpa using HS2.out⟩, HB2⟩
      case round =>
        clear HS2 HB2
        obtain ⟨i, rfl, HI, HS, HB⟩ := hrel
        by_cases hlt : i < m0
        · have dl : decide (i < m0) = true := by simpa using hlt
          have i0 : 0 ≤ i := HI.out.1
          have HMO := Aside0.mk (full_more i i0 (by omega))
          have HS4 : Aside0 (∀ m v W, StAt 58 W S m v (fullL 4000) (decide (0 < i)) → Calls Try.prog 18 #[.pointer (some ⟨S, 0, none⟩), .int .i64 0, .int .i64 (-900 - i), .int .i64 (-1)] W (NodeEnd 58 W S m v (fullL 4000) true (-1002))) := ⟨fun m v W hS => nodeP_full S m v _ _ 0 (-900 - i) (-1) W hS HMO.out.1 (by omega) HMO.out.2 (by rw [fullL_length]; omega)⟩
          obtain ⟨wo, rfl⟩ : ∃ wo : World, wo = wr := ⟨_, rfl⟩
          go_wp2_with (first
            | (go_at_call 18; refine (HS.out.call (fun m v hS => HS4.out m v _ hS)).mono ?_; rintro e w5 ⟨rfl, h1, hb⟩; have HS1 := Aside0.mk h1; have HB1 := Aside0.mk (HB.out.trans hb); clear h1 hb)
            | (go_at_call 11; refine HS1.out.full.mono ?_; rintro e w' ⟨rfl, rfl⟩))
          go_roundw
          case measure => simp [intOf]; omega
          case rel => exact ⟨i + 1, rfl, ⟨by omega⟩, ⟨by rw [show decide (0 < i + 1) = true by simp; omega]; exact HS1.out⟩, HB1⟩
        · have dl : decide (i < m0) = false := by simpa using hlt
          have hi : i = m0 := by have := HI.out; omega
          subst hi
          clear HI hlt
          have HR := Aside0.mk (fun (W : World) (h : One 58 w.heap.size W S (fullL 4000) (decide (0 < i))) => h.run (full_wf 4000 (by omega)) 0 0 (hs := []) (A := none) (Kd.C_nil Kd.bool W) (by simp))
          rw [full_run] at HR
          obtain ⟨wo, rfl⟩ : ∃ wo : World, wo = wr := ⟨_, rfl⟩
          cases hd : decide (0 < i) with
          | true =>
            rw [hd] at HS HR
            go_wp2_with (first
              | (go_at_call 11; refine HS.out.full.mono ?_; rintro e w' ⟨rfl, rfl⟩)
              | (go_at_call 19; refine (HR.out _ HS.out).mono ?_; rintro e w6 ⟨rfl, hf⟩; have HB1 := Aside0.mk (HB.out.trans (HS.out.lowk hf)); clear hf))
            go_ret
            exact ⟨rfl, HB1.out⟩
          | false =>
            rw [hd] at HS HR
            go_wp2_with (first
              | (go_at_call 11; refine HS.out.full.mono ?_; rintro e w' ⟨rfl, rfl⟩)
              | (go_at_call 19; refine (HR.out _ HS.out).mono ?_; rintro e w6 ⟨rfl, hf⟩; have HB1 := Aside0.mk (HB.out.trans (HS.out.lowk hf)); clear hf))
            go_ret
            exact ⟨rfl, HB1.out⟩
end Go.Proofs.Ytihikenmknphkaa.Q
