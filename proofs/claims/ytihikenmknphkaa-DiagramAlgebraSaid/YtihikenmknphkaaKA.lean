/-
  maps.Keys at the marks: the iterator's contract, laid from the shelf. No condition beyond those that stand in each.
  slices.Sort at a slice of numbers of the call's own. No condition beyond those that stand in each.
  Diagrams: the walk of Leaves. No condition beyond those that stand in each.
  slices.IndexFunc, ContainsFunc at rows of numbers; condition of both stores. No condition beyond those that stand in each. (Written by wip/tools/gen_cond.py.)
  Diagrams: Choose of both stores. No condition beyond those that stand in each.
  Diagrams: And, Or, Not of both stores. No condition beyond those that stand in each. (Written by wip/tools/gen_ops.py.)
  Diagrams: Full of the program's store. No condition beyond those that stand in each.
  Diagrams: Run of both stores. No condition beyond those that stand in each. (Written by wip/tools/gen_run.py.)
  Diagrams: At of the program's store. No condition beyond those that stand in each.
-/
import Derived.Test.YtihikenmknphkaaVA
import Derived.Shelf.SlIterI.Stops
import Derived.Test.YtihikenmknphkaaKL
import Derived.Shelf.SortM.Plain
import Derived.Shelf.SortM.SortNone
import Derived.Sort.OwnSortedInts
import Derived.RangeFuncBox
import Derived.RangeFuncLeaves
import Derived.RangeFuncFrom
import Derived.RangeFuncBound
import Derived.RangeFuncCalls
import Derived.RangeFuncWrites
import Derived.Shelf.Abstract
import Derived.WalkKit
import Derived.OwnWalkIn
import Derived.TacticsInMore
import Derived.LoopNIn
import Derived.LoopIn
import Derived.ChangeSlices
import Derived.Maps.AppendAt
import Derived.Deep.LoopGhost
import Derived.Laws.ResultCell
namespace Go.Proofs
open Go.RowKit Go.Maps Go.Sort Go.Shelf
theorem Try.keys39 (n : Nat) (mb : Option Nat) (W : World) : CallsIn Fence.wide n Try.prog 39 #[.map mb] W fun e w' => e = .returned (.func (.func 53) #[] #[.pointer (some ⟨W.heap.size, 0, none⟩)]) ∧ w' = W.alloc (.cells #[.map mb] 62) :=
  AnyZI.keys_in Try.keysL Fence.wide n trivial rfl mb W
theorem Try.keysStop {H : Type} (n : Nat) (hn : 1 ≤ n) (Bm b nn : Nat) (D0 : DataW H) {R : Value → Option (DataW H × List MemPlace)} (w : World) (hBm : Bm < w.heap.size)
    (hm : w.cell? ⟨Bm, 0, none⟩ = some (.map (some b))) (hown : w.ownsMap Try.prog 3 R b nn D0) :
    SeqStops Fence.wide n Try.prog 53 #[.pointer (some ⟨Bm, 0, none⟩)] encZ (fun ss => ss.Perm (intKeys D0) ∧ ∀ x, x ∈ ss ↔ has D0 (.int .i64 x) = true) (fun pre => pre.Nodup ∧ ∀ x ∈ pre, has D0 (.int .i64 x) = true) (Maps.size D0) w :=
  AnyZI.keys_stops (ρ := Try.keysL_ren) { Try.keysL with } Fence.wide n trivial rfl hn Bm b nn D0 w hBm hm hown
end Go.Proofs

namespace Go.Proofs
open Go.RowKit Go.Maps Go.Sort Go.Shelf
theorem Try.sort41 (blk off cap : Nat) (zs : List Int) (w : World) (hH : Holds (Value.int .i64) w blk off zs.toArray) (hblk : blk < w.heap.size) (hsz : zs.length < 4611686018427387904) :
    Calls Try.prog 41 #[.slice (some ⟨blk, off, none⟩) zs.length cap] w fun e w' =>
      e = .returned (.tuple #[]) ∧ ∃ n os, w' = grow (putRow (Value.int .i64) (Sort.ahead w n) blk off (zs.mergeSort fun x y => decide (x ≤ y)).toArray) os := AnyM.slices_Sort_int Try.sortL blk off cap zs w hH hblk hsz
theorem Try.sort41_none (p : Option Addr) (cap : Nat) (w : World) : Calls Try.prog 41 #[.slice p 0 cap] w fun e w' => e = .returned (.tuple #[]) ∧ w' = w := AnyM.slices_Sort_int_none Try.sortL p cap w
end Go.Proofs
namespace Go.Proofs.Ytihikenmknphkaa.Q
open Go Go.RowKit Go.Maps Go.Shelf Go.Sort Go.Proofs.YtihikenmknphkaaW.PrintWords Go.Proofs.YtihikenmknphkaaW.PrintLast Go.Proofs.YtihikenmknphkaaW.PrintMore Go.Proofs.Ytihikenmknphkaa.M
def sortZ (l : List Int) : List Int := l.mergeSort fun x y => decide (x ≤ y)
theorem sortI_row (v : Value) (zs : List Int) (w : World) (base : Nat) (ok : Nat → Prop) (ho : Kd.R (Kd.int .i64) 3 w base ok v zs) (hl : zs.length ≤ 1000000000) :
    Calls Try.prog 41 #[v] w fun e w' => e = .returned (.tuple #[]) ∧ Kd.R (Kd.int .i64) 3 w' base ok v (sortZ zs) ∧ w.grownBy w' v.ownBlock := by
  have hown := Kd.own_of_R ho
  have hok := ho.1
  rcases hown.2 with ⟨rfl, h0⟩ | ⟨g, cap, cur, rfl, hbase, hb, h1, h2, h3, h4⟩
  · obtain rfl : zs = [] := List.eq_nil_of_length_eq_zero h0
    refine (Try.sort41_none none 0 w).mono ?_
    rintro e w' ⟨rfl, rfl⟩
    exact ⟨rfl, by simpa [sortZ] using ho, by simp [Value.ownBlock]; exact ⟨rfl, rfl, rfl, Nat.le_refl _, fun _ _ _ => rfl⟩⟩
  · have hc : cur.toList.take zs.length = zs.map (Value.int .i64) := by
      simpa [encs] using h4
    have h := Try.sort41 g 0 cap zs w (holds_of_blockI hb hc) (Array.getElem?_eq_some_iff.1 hb).1 (by omega)
    refine h.mono ?_
    rintro e w' ⟨rfl, n, os, rfl⟩
    refine ⟨rfl, ?_, ?_⟩
    · have h5 := ownsRow_sortedI (ss := zs) (ts := zs.mergeSort fun x y => decide (x ≤ y)) (n := n) (os := os) (by simp) hbase hb h1 h2 h3
      exact Kd.R_of_own (by simpa [encs, sortZ] using h5) hok
    · exact grownBy_sortedI _
end Go.Proofs.Ytihikenmknphkaa.Q

namespace Go.Proofs.Ytihikenmknphkaa.Q
open Go Go.RowKit Go.Maps Go.Shelf Go.Sort Go.Proofs.YtihikenmknphkaaW.PrintWords Go.Proofs.YtihikenmknphkaaW.PrintLast Go.Proofs.YtihikenmknphkaaW.PrintMore Go.Proofs.Ytihikenmknphkaa.M
set_option linter.unusedVariables false
set_option linter.unusedSimpArgs false
attribute [local go_sem] Oper.semAt_some

/-- what a list of ids holds of leaves -/
def negsI (pre : List Int) : List Int := (pre.filter fun x => decide (x < 0)).map fun x => wrap64 (-1 - x)
theorem negsI_snoc (pre : List Int) (x : Int) : negsI (pre ++ [x]) = negsI pre ++ (if x < 0 then [wrap64 (-1 - x)] else []) := by
  unfold negsI
  rw [List.filter_append, List.map_append]
  by_cases h : x < 0 <;> simp [h]
theorem negsI_length (pre : List Int) : (negsI pre).length ≤ pre.length := by
  unfold negsI
  rw [List.length_map]
  exact List.length_filter_le _ _
theorem mapsize_le {w : World} {b n : Nat} {D : DataW Value} (h : w.ownsMap Try.prog 3 mpR b n D) : Maps.size D ≤ n := h.size_le
theorem tells_ids {s : SeenI} {D : DataW Value} (h : Tells D (bvI s)) (x : Int) : Maps.has D (.int .i64 x) = s x := by
  show Maps.has D (kI x) = s x
  rw [tells_has h, bvI_at]
  cases s x <;> rfl
theorem leavesU_sorted (s : SeenI) (n : Nat) : (leavesU s n).Pairwise fun a b => leI a b = true := by
  unfold leavesU
  rw [List.pairwise_map]
  exact (List.pairwise_lt_range.filter _).imp (fun h => by simp [leI]; omega)
theorem leavesU_nodup (s : SeenI) (n : Nat) : (leavesU s n).Nodup := by
  unfold leavesU
  rw [List.Nodup, List.pairwise_map]
  exact (List.nodup_range.filter _).imp (fun hab he => hab (by omega))
theorem leaves_sorted {ns : List N39} {id : Int} {s : SeenI} {D : DataW Value} {w : World} {b n : Nat} {ys : List Int} (hw : WF ns) (hm : Marks ns id s) (hd : w.ownsMap Try.prog 3 mpR b n D) (ht : Tells D (bvI s)) (hp : ys.Perm (intKeys D)) :
    sortZ (negsI ys) = leavesF ns id := by
  have hc : CollectedI D (fun _ => false) ((idsL ns).filter s) := ⟨(idsL_nodup ns).filter _, fun x => by
    rw [List.mem_filter, mem_idsL, tells_ids ht]
    simp only [and_true]
    exact ⟨fun h => h.2, fun h => ⟨hm.valid hw h, h⟩⟩⟩
  have hq := hp.trans (hc.perm hd K3i Try.underlying3 (fun _ => rfl)).symm
  have hn : (negsI ys).Perm (negsI ((idsL ns).filter s)) := (hq.filter _).map _
  have hmem : ∀ x ∈ ((idsL ns).filter s).filter (fun x => decide (x < 0)), -1002 < x ∧ x < 0 := fun x hx => by
    rw [List.mem_filter, List.mem_filter, mem_idsL] at hx
    have h1 := valid_lt hx.1.1
    have h2 := hx.2
    simp at h2
    omega
  have hu : (negsI ((idsL ns).filter s)).Perm (leavesU s 1001) := by
    have hmap : negsI ((idsL ns).filter s) = (((idsL ns).filter s).filter fun x => decide (x < 0)).map fun x => -1 - x :=
      List.map_congr_left (fun x hx => by have := hmem x hx; show wrap64 (-1 - x) = -1 - x; unfold wrap64; omega)
    refine (List.perm_ext_iff_of_nodup ?_ (leavesU_nodup s 1001)).2 (fun y => ?_)
    · rw [hmap, List.Nodup, List.pairwise_map]
      exact (((idsL_nodup ns).filter _).filter _).imp (fun hab he => hab (by omega))
    · rw [hmap, mem_leavesU, List.mem_map]
      constructor
      · rintro ⟨x, hx, rfl⟩
        have h1 := hmem x hx
        rw [List.mem_filter, List.mem_filter] at hx
        exact ⟨by omega, by omega, by rw [show -1 - (-1 - x) = x by omega]; exact hx.1.2⟩
      · rintro ⟨h0, h1, h2⟩
        refine ⟨-1 - y, ?_, by omega⟩
        rw [List.mem_filter, List.mem_filter, mem_idsL]
        exact ⟨⟨hm.valid hw h2, h2⟩, by simp; omega⟩
  have hs : leavesF ns id = leavesU s 1001 := by rw [hm.eq]; rfl
  rw [hs]
  show (negsI ys).mergeSort leI = _
  refine List.Perm.eq_of_pairwise (le := fun a b => leI a b = true) (fun a b _ _ h1 h2 => ?_) ?_ (leavesU_sorted s 1001) (((List.mergeSort_perm _ _).trans hn).trans hu)
  · simp only [leI, decide_eq_true_eq] at h1 h2
    omega
  · exact List.pairwise_mergeSort (fun a b c h1 h2 => by simp only [leI, decide_eq_true_eq] at *; omega) (fun a b => by simp only [leI, Bool.or_eq_true, decide_eq_true_eq]; omega) _
def LeavesI (w : World) (pre : List Int) (W : World) : Prop :=
  (∃ v, Boxed W w.heap.size 35 v ∧ W.ownsRow w.heap.size 3 1 v (negsI pre).length ((negsI pre).map encZ) ∧ True) ∧ Below w.heap.size w W
theorem enters53 (args : Array Value) (w : World) : (callFunc 53 args).run Try.prog w = .ok (.enter 53 args) w := enters_of Try.func53 (by kernel_rfl) rfl args w

set_option maxRecDepth 100000 in
set_option maxHeartbeats 4000000 in
theorem leavesP_calls (ns : List N39) (id : Int) (S m : Nat) (v : Value) (full : Bool) (w : World) (hw : WF ns) (hS : StAt 58 w S m v ns full) (ho : okI id) :
    Calls Try.prog 13 #[.pointer (some ⟨S, 0, none⟩), .int .i64 id] w fun e w' => ∃ v', e = .returned v' ∧ Kd.R (Kd.int .i64) 3 w' w.heap.size (fun _ => True) v' (leavesF ns id) ∧ Fr w w' (fun _ => False) := by
  have HW := Aside0.mk hw
  have HO := Aside0.mk ho
  have HF0 : Aside0 (Fr w (w.alloc (.cells #[.slice none 0 0] 35)) (fun _ => False)) := ⟨(Fr.refl w _).alloc _⟩
  have HS0 := Aside0.mk (hS.kept HF0.out (fun _ _ h => h))
  have HBX0 := Aside0.mk (blk_new w (.cells #[.slice none 0 0] 35))
  have HLN := Aside0.mk hS.len
  clear hw hS ho
  refine (callsIn_wide (n := 6)).1 ?_
  refine callsIn_of_wp_marks Try.func13 rfl trivial ?_ rfl
  simp only [Try.ntmps13, List.size_toArray, List.length_cons, List.length_nil, Nat.reduceAdd, Nat.reduceSub, Array.replicate_succ, Array.replicate_zero, List.push_toArray, List.append_toArray, List.nil_append, List.cons_append]
  have hf40 : Fence.wide.fn 40 := trivial
  have hf39 : Fence.wide.fn 39 := trivial
  gi_wp2_with (first | (gi_at_call 40; refine (callsIn_wide.2 (reachP_calls ns id S m v full _ HW.out HS0.out HO.out)).mono ?_; rintro e w2 ⟨b1, s, rfl, hm, ⟨D, hd, ht⟩, hb, hf⟩; have HM := Aside0.mk hm; have HD := Aside0.mk hd; have HT := Aside0.mk ht; have HB := Aside0.mk hb; have HF := Aside0.mk hf; clear hm hd ht hb hf) | (gi_at_call 39; refine (Try.keys39 _ _ _).mono ?_; rintro e w' ⟨rfl, rfl⟩))
  have hbnd : Maps.size D ≤ cntI ns := mapsize_le HD.out
  have hln := HLN.out
  have hcnt : cntI ns ≤ 5001 := by unfold cntI; omega
  have HBO : Aside0 (w.heap.size < w2.heap.size) := ⟨by have := HF.out.size; simp at this; omega⟩
  have HB2 : Aside0 (Below w.heap.size w (w2.alloc (.cells #[.map (some b1)] 62))) := ⟨((HF0.out.trans HF.out (fun _ h => h.elim)).below (Nat.le_refl _) (fun _ h => h.elim)).alloc (Nat.le_of_lt HBO.out) _⟩
  have hown3 : (w2.alloc (.cells #[.map (some b1)] 62)).ownsMap Try.prog 3 mpR b1 (cntI ns) D := by
    have hbl := HD.out.lt
    obtain ⟨es, clock, hb, Ft, hs, hD⟩ := HD.out
    exact ⟨es, clock, (Below.heap_alloc _ _ b1 hbl).trans hb, Ft, hs, hD⟩
  have hbox : Boxed w2 w.heap.size 35 (.slice none 0 0) := HF.out.heap HBX0.out (fun h => h)
  have hcell : (w2.alloc (.cells #[.map (some b1)] 62)).cell? ⟨w2.heap.size, 0, none⟩ = some (.map (some b1)) := (blk_cell (blk_new w2 (.cells #[.map (some b1)] 62)) 0).trans rfl
  obtain ⟨i0, hi, hz0, hz1, hz2⟩ := info_parts info3
  refine wpIn_rangeFunc_ownF (F := Fence.wide) (n := 6) rfl (by omega) (gf := 53) (lb := #[.pointer (some ⟨w2.heap.size, 0, none⟩)]) rfl trivial enters53
    (encs := fun x : Int => #[encZ x]) (Kp := KeepsWalks) (Try.keysStop 5 (by omega) w2.heap.size b1 (cntI ns) D (w2.alloc (.cells #[.map (some b1)] 62)) (by simp) hcell hown3) walksK_t walksK_b (Below.refl _ _) (fun _ => rfl) (LeavesI w) (fun _ _ _ => False)
    (OwnFrom.and (Own.from (holdsRow_own w.heap.size w.heap.size 35 3 1 (fun pre : List Int => (negsI pre).length) (fun pre => (negsI pre).map encZ) (fun _ _ => True)) _) (ownFrom_below (Nat.le_refl _) (by have := HBO.out; simp; omega)))
    (fun _ _ _ _ _ hs _ _ => hs)
    ⟨⟨_, hbox.alloc _, World.ownsRow_nil _ _ _ _, trivial⟩, HB2.out⟩
    (fun x => { tmps := #[.pointer (some ⟨S, 0, none⟩), .int .i64 id, undef, undef, .slice none 0 0, .pointer (some ⟨w.heap.size, 0, none⟩), .int .i64 x, .pointer (some ⟨S, 0, none⟩), .int .i64 id, .map (some b1), .func (.func 53) #[] #[.pointer (some ⟨w2.heap.size, 0, none⟩)], .int .i64 x, undef, undef, undef, undef, undef, undef, undef, undef, undef, undef], defers := [] }) ?assign ?body ?done ?stop
  case assign =>
    intro l x W K hK
    gi_wp2
    exact hK
  case body =>
    rintro l pre x W ⟨⟨v, hv, hrow, _⟩, hB⟩ hlt
    have hc := hv.cell
    have hnl := negsI_length pre
    by_cases hx : x < 0
    · have hd : decide (x < 0) = true := by simpa using hx
      have HSN : Aside0 (negsI (pre ++ [x]) = negsI pre ++ [wrap64 (-1 - x)]) := ⟨by rw [negsI_snoc, if_pos hx]⟩
      gi_wp2_with (gi_at_builtin; refine wpListIn_append_own _ rfl _ _ 35 rfl w.heap.size 3 i0 (.int .i64 0) 1 8 Try.underlying35 hi hz0 hz1 hz2 rfl (by decide) _ _ _ rfl (hrow.alloc _) ⟨W.heap.size, 0, none⟩ 1 1 [.int .i64 (wrap64 (-1 - x))] rfl rfl (cell_one_new _ _ _) (by simp [Value.oneCell']) (by first | omega | (unfold maxLen; omega)) (by first | omega | (unfold maxLen; omega)) (by have := hB.size; simp; omega) ?_; intro v' w1 hown' hgrow _; obtain ⟨g', cap', rfl⟩ := ownsRow_succ hown'; obtain ⟨hv1, hv2, hr2, hk2, hb2⟩ := hv.appended (by decide) hrow hB.size (Nat.le_refl _) hown' hgrow; have hc1 := hv1.cell; have hf1 := hv1.frozen)
      exact ⟨hk2, hk2.walks, ⟨_, hv2, by rw [HSN.out]; simpa using hr2, trivial⟩, hB.trans hb2⟩
    · have hd : decide (x < 0) = false := by simpa using hx
      have HSN : Aside0 (negsI (pre ++ [x]) = negsI pre) := ⟨by rw [negsI_snoc, if_neg hx, List.append_nil]⟩
      gi_wp2
      exact ⟨KeepsOthers.refl _, (KeepsOthers.refl _).walks, ⟨_, hv, by rw [HSN.out]; exact hrow, trivial⟩, hB⟩
  case stop =>
    rintro D c pre W _ _ h _
    exact h.elim
  case done =>
    rintro DD ys W hDD ⟨hperm, hys⟩ ⟨⟨v, hv, hrow, _⟩, hB⟩ hK
    have hc := hv.cell
    have HE := Aside0.mk (leaves_sorted HW.out HM.out HD.out HT.out hperm)
    have hlen : (negsI ys).length ≤ 1001 := by
      have h1 := congrArg List.length HE.out
      rw [sortZ, List.length_mergeSort] at h1
      have h2 := leavesU_length (rcB ns id) 1001
      unfold leavesF at h1
      omega
    have HRv : Kd.R (Kd.int .i64) 3 W w.heap.size (fun _ => True) v (negsI ys) := Kd.R_of_own (by simpa [encs] using hrow) (fun _ _ => trivial)
    have cS := sortI_row v (negsI ys) W w.heap.size _ HRv (by omega)
    have hf41 : Fence.wide.fn 41 := trivial
    have hnot := hv.not_row (by decide) hrow
    have hbase := own_base hrow
    have hKD : some DD ≠ v.ownBlock := fun e => by
      rcases hrow.2 with ⟨rfl, _⟩ | ⟨g, cap, cur, rfl, _, hgb, _⟩
      · simp [Value.ownBlock] at e
      · obtain rfl : DD = g := by simpa [Value.ownBlock] using e
        rw [hgb] at hK
        cases hK
    have HVB := Aside0.mk hv
    have HBW := Aside0.mk hB
    gi_wp2_with (gi_at_call 41; refine (callsIn_wide.2 cS).mono ?_; rintro e w3 ⟨rfl, hro3, hg3⟩; have hc3 := (HVB.out.kept hg3 hnot).cell; have hK3 := hg3.block DD (Array.getElem?_eq_some_iff.1 hK).1 hKD; rw [hK] at hK3; have HR3 := Aside0.mk hro3; have HB3 := Aside0.mk (HBW.out.grown hg3 HBW.out.size hbase))
    refine ⟨by simp, .inl ⟨_, _, rfl, run_takeDeferred hK3, ?_⟩⟩
    refine ⟨_, results_tmp rfl _ _ _, v, rfl, ?_, Fr.of_below (HB3.out.trans (belowK_b (w := w) (Nat.le_refl _) w3 DD _ _ (by simp at hDD; have := HBO.out; omega) hK3 rfl rfl)) _⟩
    rw [← HE.out]
    exact Kd.R_of_own (ownsRow_putObj (Kd.own_of_R HR3.out) _ hK3 rfl) (fun _ _ => trivial)
end Go.Proofs.Ytihikenmknphkaa.Q

namespace Go.Proofs.Ytihikenmknphkaa.Q
open Go Go.RowKit Go.Maps Go.Proofs.YtihikenmknphkaaW.PrintWords Go.Proofs.YtihikenmknphkaaW.PrintLast Go.Proofs.YtihikenmknphkaaW.PrintMore Go.Proofs.Ytihikenmknphkaa.M
set_option linter.unusedVariables false
set_option linter.unusedSimpArgs false

theorem rd_getZ {l : List Int} {i : Nat} (h : i < l.length) : rd l (i : Int) = l[i] := by
  simp [rd, List.getD_eq_getElem?_getD, List.getElem?_eq_getElem h]
def idxF (p : Int → Bool) (zs : List Int) : Int := match zs.findIdx? p with | some i => i | none => -1
theorem idxF_hit {p : Int → Bool} {zs : List Int} {k : Nat} (hk : k < zs.length) (ha : ∀ x ∈ zs.take k, p x = false) (hp : p zs[k] = true) : idxF p zs = k := by
  unfold idxF
  have : zs.findIdx? p = some k := by
    rw [List.findIdx?_eq_some_iff_getElem]
    refine ⟨hk, hp, fun j hj => ?_⟩
    have := ha zs[j] (List.mem_iff_getElem.2 ⟨j, by simp; omega, by simp⟩)
    simp [this]
  rw [this]
theorem idxF_miss {p : Int → Bool} {zs : List Int} (ha : ∀ x ∈ zs, p x = false) : idxF p zs = -1 := by
  unfold idxF
  have : zs.findIdx? p = none := by
    rw [List.findIdx?_eq_none_iff]
    exact ha
  rw [this]
set_option maxHeartbeats 1000000 in
theorem indexFunc_calls (g : Nat) (lb : Array Value) (eg : ∀ args w, (callFunc g args).run Try.prog w = .ok (.enter g args) w) (p : Int → Bool) (A : Option Addr) (c : Nat) (zs : List Int) (w : World) (hC : Kd.C (Kd.int .i64) w A zs.length zs) (hl : zs.length ≤ 1000000000)
    (hp : ∀ x ∈ zs, Calls Try.prog g (#[.int .i64 x] ++ lb) w fun e w' => e = .returned (.bool (p x)) ∧ w = w') :
    Calls Try.prog 73 #[.slice A zs.length c, .func (.func g) #[] lb] w fun e w' => e = .returned (.int .i64 (idxF p zs)) ∧ w = w' := by
  have HC := Aside0.mk hC
  have HP := Aside0.mk hp
  clear hC hp
  go_enter Try.func73, Try.ntmps73
  go_wp2
  go_loopg [5, 8] zs.length (fun kq _ v8 wr => ∃ i : Int, v8 = .int .i64 i ∧ 0 ≤ i ∧ i ≤ zs.length ∧ zs.length ≤ kq + i.toNat ∧ w = wr ∧ Aside0 (∀ x ∈ zs.take i.toNat, p x = false))
  case atStart => exact ⟨0, rfl, by omega, by omega, by simp, rfl, ⟨by simp⟩⟩
  case round =>
    obtain ⟨i, rfl, h0, hk, hg, rfl, HA⟩ := hrel
    by_cases hlt : i < zs.length
    · obtain ⟨ad, e, hx⟩ := Kd.at_int HC.out i h0 hlt
      cases e
      have hn : i.toNat < zs.length := by omega
      have hrd : rd zs i = zs[i.toNat] := by have := rd_getZ hn; rwa [Int.toNat_of_nonneg h0] at this
      rw [hrd] at hx
      have hcall := HP.out zs[i.toNat] (List.getElem_mem _)
      have HT : Aside0 (zs.take (i + 1).toNat = zs.take i.toNat ++ [zs[i.toNat]]) := ⟨by rw [show (i + 1).toNat = i.toNat + 1 by omega]; exact List.take_succ_eq_append_getElem hn⟩
      have HH : Aside0 ((∀ x ∈ zs.take i.toNat, p x = false) → p zs[i.toNat] = true → idxF p zs = i) := ⟨fun ha h => by rw [idxF_hit hn ha h]; omega⟩
      generalize zs[i.toNat] = y at hx hcall HT HH
      have hg2 : zs.length ≤ (gk - 1) + (i + 1).toNat := by omega
      have hg3 : gk - 1 < gk := by omega
      have HG2 := Aside0.mk hg2
      have HG3 := Aside0.mk hg3
      clear hg hn hrd hg2 hg3
      cases hq : p y with
      | true =>
        rw [hq] at hcall
        have HQ := Aside0.mk hq
        clear hq
        go_wp2_with (go_at_fn g; refine hcall.mono ?_; rintro e w' ⟨rfl, rfl⟩)
        go_ret
        exact ⟨by rw [HH.out HA.out HQ.out]; rfl, rfl⟩
      | false =>
        rw [hq] at hcall
        have HQ := Aside0.mk hq
        clear hq
        go_wp2_with (go_at_fn g; refine hcall.mono ?_; rintro e w' ⟨rfl, rfl⟩)
        go_roundg (gk - 1)
        case measure => exact HG3.out
        case rel =>
          refine ⟨i + 1, rfl, by omega, by omega, HG2.out, rfl, ⟨fun x hx => ?_⟩⟩
          rw [HT.out, List.mem_append, List.mem_singleton] at hx
          rcases hx with e | e
          · exact HA.out x e
          · rw [e]; exact HQ.out
    · have hk2 : i = zs.length := by omega
      have HM : Aside0 (idxF p zs = -1) := ⟨idxF_miss (by have := HA.out; rw [hk2] at this; simpa using this)⟩
      clear hk2 HA
      go_wp2
      go_ret
      exact ⟨by rw [HM.out]; rfl, rfl⟩
theorem idxF_any (p : Int → Bool) (zs : List Int) : decide (0 ≤ idxF p zs) = zs.any p := by
  unfold idxF
  cases h : zs.findIdx? p with
  | none =>
    rw [List.findIdx?_eq_none_iff] at h
    have : zs.any p = false := by rw [List.any_eq_false]; intro x hx; simp [h x hx]
    rw [this]
    rfl
  | some i =>
    rw [List.findIdx?_eq_some_iff_getElem] at h
    obtain ⟨hi, hp, _⟩ := h
    have : zs.any p = true := by rw [List.any_eq_true]; exact ⟨_, List.getElem_mem hi, hp⟩
    rw [this]
    simp
theorem enters73 (args : Array Value) (w : World) : (callFunc 73 args).run Try.prog w = .ok (.enter 73 args) w := enters_of Try.func73 (by kernel_rfl) rfl args w

set_option maxHeartbeats 1000000 in
theorem containsFunc_calls (g : Nat) (lb : Array Value) (eg : ∀ args w, (callFunc g args).run Try.prog w = .ok (.enter g args) w) (p : Int → Bool) (A : Option Addr) (c : Nat) (zs : List Int) (w : World) (hC : Kd.C (Kd.int .i64) w A zs.length zs) (hl : zs.length ≤ 1000000000)
    (hp : ∀ x ∈ zs, Calls Try.prog g (#[.int .i64 x] ++ lb) w fun e w' => e = .returned (.bool (p x)) ∧ w = w') :
    Calls Try.prog 57 #[.slice A zs.length c, .func (.func g) #[] lb] w fun e w' => e = .returned (.bool (zs.any p)) ∧ w = w' := by
  have c1 := indexFunc_calls g lb eg p A c zs w hC hl hp
  have HA := Aside0.mk (idxF_any p zs)
  clear hC hp eg
  generalize idxF p zs = r at c1 HA
  generalize zs.any p = q at HA ⊢
  go_enter Try.func57, Try.ntmps57
  by_cases hr : 0 ≤ r
  · go_wp2_with (go_at_call 73; refine c1.mono ?_; rintro e w' ⟨rfl, rfl⟩)
    go_ret
    exact ⟨by rw [← HA.out]; simp [hr], rfl⟩
  · go_wp2_with (go_at_call 73; refine c1.mono ?_; rintro e w' ⟨rfl, rfl⟩)
    go_ret
    exact ⟨by rw [← HA.out]; simp [hr], rfl⟩


theorem cond1_calls (x : Int) (w : World) : Calls Try.prog 58 (#[.int .i64 x] ++ #[]) w fun e w' => e = .returned (.bool (decide (1 < x))) ∧ w = w' := by
  show Calls Try.prog 58 #[.int .i64 x] w _
  go_enter Try.func58, Try.ntmps58
  go_wp2
  go_ret
  exact ⟨rfl, rfl⟩
theorem enters58 (args : Array Value) (w : World) : (callFunc 58 args).run Try.prog w = .ok (.enter 58 args) w := enters_of Try.func58 (by kernel_rfl) rfl args w
/-- a condition's id -/
noncomputable def condF (ns : List N39) (id : Int) : Bool := validN ns id && !((leavesF ns id).any fun n => decide (1 < n))
theorem leavesF_length (ns : List N39) (id : Int) : (leavesF ns id).length ≤ 1001 := leavesU_length _ _
set_option maxRecDepth 100000 in
set_option maxHeartbeats 2000000 in
theorem condP_calls (ns : List N39) (id : Int) (S m : Nat) (v : Value) (full : Bool) (w : World) (hw : WF ns) (hS : StAt 58 w S m v ns full) (ho : okI id) :
    Calls Try.prog 46 #[.pointer (some ⟨S, 0, none⟩), .int .i64 id] w fun e w' => e = .returned (.bool (condF ns id)) ∧ Fr w w' (fun _ => False) := by
  have HW := Aside0.mk hw
  have HS := Aside0.mk hS
  have HO := Aside0.mk ho
  clear hw hS ho
  cases hv : validN ns id with
  | false =>
    have HE : Aside0 (condF ns id = false) := ⟨by unfold condF; rw [hv]; rfl⟩
    have HV := Aside0.mk hv
    clear hv
    go_enter Try.func46, Try.ntmps46
    go_wp2_with (go_at_call 44; refine (validP_calls S m v ns full id w HS.out).mono ?_; rw [HV.out]; rintro e w' ⟨rfl, rfl⟩)
    go_ret
    exact ⟨by rw [HE.out]; rfl, Fr.refl _ _⟩
  | true =>
    have HE : Aside0 (condF ns id = !((leavesF ns id).any fun n => decide (1 < n))) := ⟨by unfold condF; rw [hv]; rfl⟩
    have HV := Aside0.mk hv
    have HLL := Aside0.mk (leavesF_length ns id)
    clear hv
    have he58 := enters58
    go_enter Try.func46, Try.ntmps46
    go_wp2_with (first | (go_at_call 44; refine (validP_calls S m v ns full id w HS.out).mono ?_; rw [HV.out]; rintro e w' ⟨rfl, rfl⟩) | (go_at_call 13; refine (leavesP_calls ns id S m v full w HW.out HS.out HO.out).mono ?_; rintro e w2 ⟨v', rfl, hr, hf⟩; obtain ⟨A2, c2, rfl⟩ := Kd.R_slice hr; have HR := Aside0.mk hr; have HF := Aside0.mk hf; clear hr hf) | (go_at_call 57; refine (containsFunc_calls 58 #[] enters58 (fun n => decide (1 < n)) _ _ (leavesF ns id) _ (Kd.R_reads' HR.out).2.2 (by have := HLL.out; omega) (fun x _ => cond1_calls x _)).mono ?_; rintro e w' ⟨rfl, rfl⟩))
    go_ret
    exact ⟨by rw [HE.out]; rfl, HF.out⟩
set_option maxRecDepth 100000 in
set_option maxHeartbeats 2000000 in
theorem condR_calls (ns : List N39) (id : Int) (S m : Nat) (v : Value) (full : Bool) (w : World) (hw : WF ns) (hS : StAt 67 w S m v ns full) :
    Calls Try.prog 48 #[.pointer (some ⟨S, 0, none⟩), .int .i64 id] w fun e w' => e = .returned (.bool (condF ns id)) ∧ Fr w w' (fun _ => False) := by
  have HW := Aside0.mk hw
  have HS := Aside0.mk hS
  clear hw hS
  cases hv : validN ns id with
  | false =>
    have HE : Aside0 (condF ns id = false) := ⟨by unfold condF; rw [hv]; rfl⟩
    have HV := Aside0.mk hv
    clear hv
    go_enter Try.func48, Try.ntmps48
    go_wp2_with (go_at_call 42; refine (validR_calls S m v ns full id w HS.out).mono ?_; rw [HV.out]; rintro e w' ⟨rfl, rfl⟩)
    go_ret
    exact ⟨by rw [HE.out]; rfl, Fr.refl _ _⟩
  | true =>
    have HE : Aside0 (condF ns id = !((leavesF ns id).any fun n => decide (1 < n))) := ⟨by unfold condF; rw [hv]; rfl⟩
    have HV := Aside0.mk hv
    have HLL := Aside0.mk (leavesF_length ns id)
    clear hv
    go_enter Try.func48, Try.ntmps48
    go_wp2_with (first | (go_at_call 42; refine (validR_calls S m v ns full id w HS.out).mono ?_; rw [HV.out]; rintro e w' ⟨rfl, rfl⟩) | (go_at_call 14; refine (leavesR_calls ns id S m v full w HW.out HS.out).mono ?_; rintro e w2 ⟨v', rfl, hr, hf⟩; obtain ⟨A2, c2, rfl⟩ := Kd.R_slice hr; have HR := Aside0.mk (Kd.R_reads' hr).2.2; have HF := Aside0.mk hf; clear hr hf))
    generalize leavesF ns id = zs at HE HLL HR ⊢
    have hl := HLL.out
    go_loopw [6] (fun v6 wr => ∃ i : Int, v6 = .int .i64 i ∧ 0 ≤ i ∧ i ≤ zs.length ∧ w2 = wr ∧ Aside0 (∀ x ∈ zs.take i.toNat, decide (1 < x) = false)) (fun v6 _ => zs.length - (intOf v6).toNat)
    case atStart => exact ⟨0, rfl, by omega, by omega, rfl, ⟨by simp⟩⟩
    case round =>
      obtain ⟨i, rfl, h0, hk, rfl, HA⟩ := hrel
      by_cases hlt : i < zs.length
      · obtain ⟨ad, e, hx⟩ := Kd.at_int HR.out i h0 hlt
        cases e
        have hn : i.toNat < zs.length := by omega
        have hrd : rd zs i = zs[i.toNat] := by have := rd_getZ hn; rwa [Int.toNat_of_nonneg h0] at this
        rw [hrd] at hx
        have HT : Aside0 (zs.take (i + 1).toNat = zs.take i.toNat ++ [zs[i.toNat]]) := ⟨by rw [show (i + 1).toNat = i.toNat + 1 by omega]; exact List.take_succ_eq_append_getElem hn⟩
        have HM : Aside0 (zs[i.toNat] ∈ zs) := ⟨List.getElem_mem _⟩
        generalize zs[i.toNat] = y at hx HT HM
        clear hn hrd
        by_cases hy : 1 < y
        · have hd : decide (1 < y) = true := by simpa using hy
          have HN : Aside0 ((zs.any fun n => decide (1 < n)) = true) := ⟨List.any_eq_true.2 ⟨y, HM.out, hd⟩⟩
          go_wp2
          go_ret
          exact ⟨by rw [HE.out, HN.out]; rfl, HF.out⟩
        · have hd : decide (1 < y) = false := by simpa using hy
          go_wp2
          go_roundw
          case rel =>
            refine ⟨i + 1, rfl, by omega, by omega, by first | rfl | trivial, ⟨fun x hx => ?_⟩⟩
            rw [HT.out, List.mem_append, List.mem_singleton] at hx
            rcases hx with e | e
            · exact HA.out x e
            · rw [e]; exact hd
          case measure => simp [intOf]; omega
      · have hk2 : i = zs.length := by omega
        have HN : Aside0 ((zs.any fun n => decide (1 < n)) = false) := ⟨List.any_eq_false.2 (fun x hx => by have := HA.out x (by rw [hk2]; simpa using hx); simp [this])⟩
        clear hk2 HA
        go_wp2
        go_ret
        exact ⟨by rw [HE.out, HN.out]; rfl, HF.out⟩
end Go.Proofs.Ytihikenmknphkaa.Q

namespace Go.Proofs.Ytihikenmknphkaa.Q
open Go Go.RowKit Go.Maps Go.Proofs.YtihikenmknphkaaW.PrintWords Go.Proofs.YtihikenmknphkaaW.PrintLast Go.Proofs.YtihikenmknphkaaW.PrintMore Go.Proofs.Ytihikenmknphkaa.M
set_option linter.unusedVariables false
set_option linter.unusedSimpArgs false

noncomputable def chOk (ns : List N39) (f g h : Int) : Bool := condF ns f && validN ns g && validN ns h
theorem memF_none : memF (fun _ => none) = fun _ => none := by
  funext kl
  simp [memF]
theorem end_now {T : Nat} {w w' : World} {S m : Nat} {v : Value} {ns : List N39} {full : Bool} (hS : StAt T w S m v ns full) (hf : Fr w w' (fun _ => False)) (r : Int) : NodeEnd T w S m v ns full r (.returned (.int .i64 r)) w' :=
  ⟨rfl, v, hS.kept hf (fun _ _ h => h), hf.mono (fun _ _ h => h.elim), .inl rfl⟩
set_option maxRecDepth 100000 in
set_option maxHeartbeats 4000000 in
theorem chooseOpP_no (ns : List N39) (f g h : Int) (S m : Nat) (v : Value) (full : Bool) (w : World) (hw : WF ns) (hS : StAt 58 w S m v ns full) (ho : okI f) (hn : chOk ns f g h = false) :
    Calls Try.prog 32 #[.pointer (some ⟨S, 0, none⟩), .int .i64 f, .int .i64 g, .int .i64 h] w (NodeEnd 58 w S m v ns full (-1002)) := by
  have HW := Aside0.mk hw
  have HS := Aside0.mk hS
  have HO := Aside0.mk ho
  unfold chOk at hn
  have tok1 : True := trivial
  cases hc : condF ns f with
  | false =>
    have HC := Aside0.mk hc
    clear hw hS ho hn hc
    go_enter Try.func32, Try.ntmps32
    go_wp2_with (go_at_call 46; refine (condP_calls ns f S m v full w HW.out HS.out HO.out).mono ?_; rw [HC.out]; rintro e w1 ⟨rfl, hf1⟩; have HF1 := Aside0.mk hf1; clear hf1)
    go_ret
    exact end_now HS.out HF1.out _
  | true =>
    cases hg : validN ns g with
    | false =>
      have HC := Aside0.mk hc
      have HG := Aside0.mk hg
      clear hw hS ho hn hc hg
      go_enter Try.func32, Try.ntmps32
      go_wp2_with (first | (go_at_call 46; refine (condP_calls ns f S m v full w HW.out HS.out HO.out).mono ?_; rw [HC.out]; rintro e w1 ⟨rfl, hf1⟩; have HF1 := Aside0.mk hf1; have HS1 := Aside0.mk (HS.out.kept hf1 (fun _ _ h => h)); clear hf1) | (go_at_call 44; refine (validP_calls S m v ns full g w1 HS1.out).mono ?_; rw [HG.out]; rintro e w' ⟨rfl, rfl⟩))
      go_ret
      exact end_now HS.out HF1.out _
    | true =>
      have hh : validN ns h = false := by rw [hc, hg] at hn; simpa using hn
      have HC := Aside0.mk hc
      have HG := Aside0.mk hg
      have HH := Aside0.mk hh
      clear hw hS ho hn hc hg hh
      go_enter Try.func32, Try.ntmps32
      go_wp2_with (first | (go_at_call 46; refine (condP_calls ns f S m v full w HW.out HS.out HO.out).mono ?_; rw [HC.out]; rintro e w1 ⟨rfl, hf1⟩; have HF1 := Aside0.mk hf1; have HS1 := Aside0.mk (HS.out.kept hf1 (fun _ _ h => h)); clear hf1) | (go_at_call 44; have _t := tok1; clear tok1; refine (validP_calls S m v ns full g w1 HS1.out).mono ?_; rw [HG.out]; rintro e w' ⟨rfl, rfl⟩) | (go_at_call 44; refine (validP_calls S m v ns full h w1 HS1.out).mono ?_; rw [HH.out]; rintro e w' ⟨rfl, rfl⟩))
      go_ret
      exact end_now HS.out HF1.out _
set_option maxRecDepth 100000 in
set_option maxHeartbeats 4000000 in
theorem chooseOpP_yes (ns ns' : List N39) (k : Nat) (memo' : Memo) (c' : Nat) (f g h r : Int) (S m : Nat) (v : Value) (full : Bool) (w : World) (hw : WF ns) (hS : StAt 58 w S m v ns full) (hn : chOk ns f g h = true) (hc : chooseF k ns (fun _ => none) 0 f g h = some (ns', memo', c', r)) :
    Calls Try.prog 32 #[.pointer (some ⟨S, 0, none⟩), .int .i64 f, .int .i64 g, .int .i64 h] w (NodeEnd 58 w S m v ns' full r) := by
  have hmm := @run_makeMap Try.prog
  have HW := Aside0.mk hw
  have HS := Aside0.mk hS
  unfold chOk at hn
  simp only [Bool.and_eq_true] at hn
  have HC := Aside0.mk hn.1.1
  have HG := Aside0.mk hn.1.2
  have HH := Aside0.mk hn.2
  have hvf : validN ns f = true := by have := hn.1.1; unfold condF at this; simp only [Bool.and_eq_true] at this; exact this.1
  have HVF := Aside0.mk hvf
  have lf := valid_lt hvf
  have hl := hS.len
  have HO : Aside0 (okI f) := ⟨okI_of (by omega) (by omega)⟩
  have HCH := Aside0.mk hc
  have tok1 : True := trivial
  clear hw hS hn hc hvf
  go_enter Try.func32, Try.ntmps32
  go_wp2_with (first | (go_at_call 46; refine (condP_calls ns f S m v full w HW.out HS.out HO.out).mono ?_; rw [HC.out]; rintro e w1 ⟨rfl, hf1⟩; have HF1 := Aside0.mk hf1; have HS1 := Aside0.mk (HS.out.kept hf1 (fun _ _ h => h)); clear hf1) | (go_at_call 44; have _t := tok1; clear tok1; refine (validP_calls S m v ns full g w1 HS1.out).mono ?_; rw [HG.out]; rintro e w' ⟨rfl, rfl⟩) | (go_at_call 44; refine (validP_calls S m v ns full h w1 HS1.out).mono ?_; rw [HH.out]; rintro e w' ⟨rfl, rfl⟩) | (go_at_call 49; refine (chooseP_calls k ns ns' (fun _ => none) memo' 0 c' f g h r S m w1.heap.size v full _ HW.out (fun _ _ e => by cases e) HVF.out HG.out HH.out HCH.out (HS1.out.kept ((Fr.refl w1 (fun _ => False)).alloc _) (fun _ _ h => h)) (by rw [memF_none]; exact MapIs.made w1 Try.prog 79) (fun e => by have := HS1.out.lt (k := m) (Or.inr (Or.inl rfl)); omega)).mono ?_; rintro e w3 ⟨rfl, v', hS3, hM3, hf3, hat3⟩; have HS3 := Aside0.mk hS3; have HF3 := Aside0.mk hf3; have HAT3 := Aside0.mk hat3; clear hS3 hM3 hf3 hat3))
  go_ret
  refine ⟨rfl, v', HS3.out, ?_, ?_⟩
  · refine ((HF1.out.mono (fun _ _ h => h.elim)).alloc _).trans HF3.out (fun j hj => ?_)
    rcases hj with e | e
    · exact .inl e
    · exact .inr (by have := HF1.out.size; omega)
  · refine HAT3.out.imp id (fun ⟨b, h1, h2⟩ => ⟨b, h1, ?_⟩)
    have := HF1.out.size
    simp at h2
    omega
set_option maxRecDepth 100000 in
set_option maxHeartbeats 4000000 in
theorem chooseOpR_no (ns : List N39) (f g h : Int) (S m : Nat) (v : Value) (full : Bool) (w : World) (hw : WF ns) (hS : StAt 67 w S m v ns full) (ho : okI f) (hn : chOk ns f g h = false) :
    Calls Try.prog 33 #[.pointer (some ⟨S, 0, none⟩), .int .i64 f, .int .i64 g, .int .i64 h] w (NodeEnd 67 w S m v ns full (-1002)) := by
  have HW := Aside0.mk hw
  have HS := Aside0.mk hS
  have HO := Aside0.mk ho
  unfold chOk at hn
  have tok1 : True := trivial
  cases hc : condF ns f with
  | false =>
    have HC := Aside0.mk hc
    clear hw hS ho hn hc
    go_enter Try.func33, Try.ntmps33
    go_wp2_with (go_at_call 48; refine (condR_calls ns f S m v full w HW.out HS.out).mono ?_; rw [HC.out]; rintro e w1 ⟨rfl, hf1⟩; have HF1 := Aside0.mk hf1; clear hf1)
    go_ret
    exact end_now HS.out HF1.out _
  | true =>
    cases hg : validN ns g with
    | false =>
      have HC := Aside0.mk hc
      have HG := Aside0.mk hg
      clear hw hS ho hn hc hg
      go_enter Try.func33, Try.ntmps33
      go_wp2_with (first | (go_at_call 48; refine (condR_calls ns f S m v full w HW.out HS.out).mono ?_; rw [HC.out]; rintro e w1 ⟨rfl, hf1⟩; have HF1 := Aside0.mk hf1; have HS1 := Aside0.mk (HS.out.kept hf1 (fun _ _ h => h)); clear hf1) | (go_at_call 42; refine (validR_calls S m v ns full g w1 HS1.out).mono ?_; rw [HG.out]; rintro e w' ⟨rfl, rfl⟩))
      go_ret
      exact end_now HS.out HF1.out _
    | true =>
      have hh : validN ns h = false := by rw [hc, hg] at hn; simpa using hn
      have HC := Aside0.mk hc
      have HG := Aside0.mk hg
      have HH := Aside0.mk hh
      clear hw hS ho hn hc hg hh
      go_enter Try.func33, Try.ntmps33
      go_wp2_with (first | (go_at_call 48; refine (condR_calls ns f S m v full w HW.out HS.out).mono ?_; rw [HC.out]; rintro e w1 ⟨rfl, hf1⟩; have HF1 := Aside0.mk hf1; have HS1 := Aside0.mk (HS.out.kept hf1 (fun _ _ h => h)); clear hf1) | (go_at_call 42; have _t := tok1; clear tok1; refine (validR_calls S m v ns full g w1 HS1.out).mono ?_; rw [HG.out]; rintro e w' ⟨rfl, rfl⟩) | (go_at_call 42; refine (validR_calls S m v ns full h w1 HS1.out).mono ?_; rw [HH.out]; rintro e w' ⟨rfl, rfl⟩))
      go_ret
      exact end_now HS.out HF1.out _
set_option maxRecDepth 100000 in
set_option maxHeartbeats 4000000 in
theorem chooseOpR_yes (ns ns' : List N39) (k : Nat) (memo' : Memo) (c' : Nat) (f g h r : Int) (S m : Nat) (v : Value) (full : Bool) (w : World) (hw : WF ns) (hS : StAt 67 w S m v ns full) (hn : chOk ns f g h = true) (hc : chooseF k ns (fun _ => none) 0 f g h = some (ns', memo', c', r)) :
    Calls Try.prog 33 #[.pointer (some ⟨S, 0, none⟩), .int .i64 f, .int .i64 g, .int .i64 h] w (NodeEnd 67 w S m v ns' full r) := by
  have hmm := @run_makeMap Try.prog
  have HW := Aside0.mk hw
  have HS := Aside0.mk hS
  unfold chOk at hn
  simp only [Bool.and_eq_true] at hn
  have HC := Aside0.mk hn.1.1
  have HG := Aside0.mk hn.1.2
  have HH := Aside0.mk hn.2
  have hvf : validN ns f = true := by have := hn.1.1; unfold condF at this; simp only [Bool.and_eq_true] at this; exact this.1
  have HVF := Aside0.mk hvf
  have lf := valid_lt hvf
  have hl := hS.len
  have HO : Aside0 (okI f) := ⟨okI_of (by omega) (by omega)⟩
  have HCH := Aside0.mk hc
  have tok1 : True := trivial
  clear hw hS hn hc hvf
  go_enter Try.func33, Try.ntmps33
  go_wp2_with (first | (go_at_call 48; refine (condR_calls ns f S m v full w HW.out HS.out).mono ?_; rw [HC.out]; rintro e w1 ⟨rfl, hf1⟩; have HF1 := Aside0.mk hf1; have HS1 := Aside0.mk (HS.out.kept hf1 (fun _ _ h => h)); clear hf1) | (go_at_call 42; have _t := tok1; clear tok1; refine (validR_calls S m v ns full g w1 HS1.out).mono ?_; rw [HG.out]; rintro e w' ⟨rfl, rfl⟩) | (go_at_call 42; refine (validR_calls S m v ns full h w1 HS1.out).mono ?_; rw [HH.out]; rintro e w' ⟨rfl, rfl⟩) | (go_at_call 50; refine (chooseR_calls k ns ns' (fun _ => none) memo' 0 c' f g h r S m w1.heap.size v full _ HW.out (fun _ _ e => by cases e) HVF.out HG.out HH.out HCH.out (HS1.out.kept ((Fr.refl w1 (fun _ => False)).alloc _) (fun _ _ h => h)) (by rw [memF_none]; exact MapIs.made w1 Try.prog 79) (fun e => by have := HS1.out.lt (k := m) (Or.inr (Or.inl rfl)); omega)).mono ?_; rintro e w3 ⟨rfl, v', hS3, hM3, hf3, hat3⟩; have HS3 := Aside0.mk hS3; have HF3 := Aside0.mk hf3; have HAT3 := Aside0.mk hat3; clear hS3 hM3 hf3 hat3))
  go_ret
  refine ⟨rfl, v', HS3.out, ?_, ?_⟩
  · refine ((HF1.out.mono (fun _ _ h => h.elim)).alloc _).trans HF3.out (fun j hj => ?_)
    rcases hj with e | e
    · exact .inl e
    · exact .inr (by have := HF1.out.size; omega)
  · refine HAT3.out.imp id (fun ⟨b, h1, h2⟩ => ⟨b, h1, ?_⟩)
    have := HF1.out.size
    simp at h2
    omega
end Go.Proofs.Ytihikenmknphkaa.Q

namespace Go.Proofs.Ytihikenmknphkaa.Q
open Go Go.RowKit Go.Maps Go.Proofs.YtihikenmknphkaaW.PrintWords Go.Proofs.YtihikenmknphkaaW.PrintLast Go.Proofs.YtihikenmknphkaaW.PrintMore Go.Proofs.Ytihikenmknphkaa.M
set_option linter.unusedVariables false
set_option linter.unusedSimpArgs false

/-- what Choose comes to -/
def ChRes (ns : List N39) (f g h : Int) (ns' : List N39) (r : Int) : Prop :=
  (chOk ns f g h = false ∧ ns' = ns ∧ r = -1002) ∨ (chOk ns f g h = true ∧ ∃ k memo' c', chooseF k ns (fun _ => none) 0 f g h = some (ns', memo', c', r))
theorem leafN_0 : leafN 0 = -1 := by decide
theorem leafN_1 : leafN 1 = -2 := by decide
theorem okI_0 : okI 0 := okI_of (by omega) (by omega)
theorem okI_1 : okI 1 := okI_of (by omega) (by omega)
theorem node_fr {T : Nat} {w w1 : World} {S m : Nat} {v : Value} {ns' : List N39} {full : Bool} {r : Int} {e : Ending} {w' : World} (hf : Fr w w1 (fun _ => False)) (h : NodeEnd T w1 S m v ns' full r e w') : NodeEnd T w S m v ns' full r e w' := by
  obtain ⟨h1, v', h2, h3, h4⟩ := h
  exact ⟨h1, v', h2, (hf.mono (fun _ _ h => h.elim)).trans h3 (fun j hj => .inl hj), h4.imp id (fun ⟨b, e1, e2⟩ => ⟨b, e1, Nat.le_trans hf.size e2⟩)⟩
theorem chooseOpP_calls (ns ns' : List N39) (f g h r : Int) (S m : Nat) (v : Value) (full : Bool) (w : World) (hw : WF ns) (hS : StAt 58 w S m v ns full) (ho : okI f) (hr : ChRes ns f g h ns' r) :
    Calls Try.prog 32 #[.pointer (some ⟨S, 0, none⟩), .int .i64 f, .int .i64 g, .int .i64 h] w (NodeEnd 58 w S m v ns' full r) := by
  rcases hr with ⟨h1, rfl, rfl⟩ | ⟨h1, k, memo', c', h2⟩
  · exact chooseOpP_no _ f g h S m v full w hw hS ho h1
  · exact chooseOpP_yes ns ns' k memo' c' f g h r S m v full w hw hS h1 h2
theorem chooseOpR_calls (ns ns' : List N39) (f g h r : Int) (S m : Nat) (v : Value) (full : Bool) (w : World) (hw : WF ns) (hS : StAt 67 w S m v ns full) (ho : okI f) (hr : ChRes ns f g h ns' r) :
    Calls Try.prog 33 #[.pointer (some ⟨S, 0, none⟩), .int .i64 f, .int .i64 g, .int .i64 h] w (NodeEnd 67 w S m v ns' full r) := by
  rcases hr with ⟨h1, rfl, rfl⟩ | ⟨h1, k, memo', c', h2⟩
  · exact chooseOpR_no _ f g h S m v full w hw hS ho h1
  · exact chooseOpR_yes ns ns' k memo' c' f g h r S m v full w hw hS h1 h2
set_option maxRecDepth 100000 in
set_option maxHeartbeats 4000000 in
theorem opAndP_no (ns : List N39) (f g : Int) (S m : Nat) (v : Value) (full : Bool) (w : World) (hw : WF ns) (hS : StAt 58 w S m v ns full) (ho : okI g) (hn : condF ns g = false) :
    Calls Try.prog 21 #[.pointer (some ⟨S, 0, none⟩), .int .i64 f, .int .i64 g] w (NodeEnd 58 w S m v ns full (-1002)) := by
  have HW := Aside0.mk hw
  have HS := Aside0.mk hS
  have HO := Aside0.mk ho
  have HC := Aside0.mk hn
  clear hw hS ho hn
  go_enter Try.func21, Try.ntmps21
  go_wp2_with (go_at_call 46; refine (condP_calls ns g S m v full w HW.out HS.out HO.out).mono ?_; rw [HC.out]; rintro e w1 ⟨rfl, hf1⟩; have HF1 := Aside0.mk hf1; clear hf1)
  go_ret
  exact end_now HS.out HF1.out _
set_option maxRecDepth 100000 in
set_option maxHeartbeats 4000000 in
theorem opAndP_yes (ns ns' : List N39) (f g r : Int) (S m : Nat) (v : Value) (full : Bool) (w : World) (hw : WF ns) (hS : StAt 58 w S m v ns full) (hof : okI f) (ho : okI g) (hn : condF ns g = true) (hr : ChRes ns f g (-1) ns' r) :
    Calls Try.prog 21 #[.pointer (some ⟨S, 0, none⟩), .int .i64 f, .int .i64 g] w (NodeEnd 58 w S m v ns' full r) := by
  have HW := Aside0.mk hw
  have HS := Aside0.mk hS
  have HOF := Aside0.mk hof
  have HO := Aside0.mk ho
  have HC := Aside0.mk hn
  have HR := Aside0.mk hr
  clear hw hS ho hn hof hr
  go_enter Try.func21, Try.ntmps21
  go_wp2_with (first | (go_at_call 46; refine (condP_calls ns g S m v full w HW.out HS.out HO.out).mono ?_; rw [HC.out]; rintro e w1 ⟨rfl, hf1⟩; have HF1 := Aside0.mk hf1; have HS1 := Aside0.mk (HS.out.kept hf1 (fun _ _ h => h)); clear hf1) | (go_at_call 25; refine (leafP_calls S 0 _ okI_0).mono ?_; rw [leafN_0]; rintro e w' ⟨rfl, rfl⟩) | (go_at_call 32; refine (chooseOpP_calls ns ns' f _ _ r S m v full w1 HW.out HS1.out HOF.out HR.out).mono ?_; rintro e w2 ⟨rfl, he⟩; have HE := Aside0.mk he; clear he))
  go_ret
  exact node_fr HF1.out ⟨rfl, HE.out⟩
set_option maxRecDepth 100000 in
set_option maxHeartbeats 4000000 in
theorem opOrP_no (ns : List N39) (f g : Int) (S m : Nat) (v : Value) (full : Bool) (w : World) (hw : WF ns) (hS : StAt 58 w S m v ns full) (ho : okI g) (hn : condF ns g = false) :
    Calls Try.prog 30 #[.pointer (some ⟨S, 0, none⟩), .int .i64 f, .int .i64 g] w (NodeEnd 58 w S m v ns full (-1002)) := by
  have HW := Aside0.mk hw
  have HS := Aside0.mk hS
  have HO := Aside0.mk ho
  have HC := Aside0.mk hn
  clear hw hS ho hn
  go_enter Try.func30, Try.ntmps30
  go_wp2_with (go_at_call 46; refine (condP_calls ns g S m v full w HW.out HS.out HO.out).mono ?_; rw [HC.out]; rintro e w1 ⟨rfl, hf1⟩; have HF1 := Aside0.mk hf1; clear hf1)
  go_ret
  exact end_now HS.out HF1.out _
set_option maxRecDepth 100000 in
set_option maxHeartbeats 4000000 in
theorem opOrP_yes (ns ns' : List N39) (f g r : Int) (S m : Nat) (v : Value) (full : Bool) (w : World) (hw : WF ns) (hS : StAt 58 w S m v ns full) (hof : okI f) (ho : okI g) (hn : condF ns g = true) (hr : ChRes ns f (-2) g ns' r) :
    Calls Try.prog 30 #[.pointer (some ⟨S, 0, none⟩), .int .i64 f, .int .i64 g] w (NodeEnd 58 w S m v ns' full r) := by
  have HW := Aside0.mk hw
  have HS := Aside0.mk hS
  have HOF := Aside0.mk hof
  have HO := Aside0.mk ho
  have HC := Aside0.mk hn
  have HR := Aside0.mk hr
  clear hw hS ho hn hof hr
  go_enter Try.func30, Try.ntmps30
  go_wp2_with (first | (go_at_call 46; refine (condP_calls ns g S m v full w HW.out HS.out HO.out).mono ?_; rw [HC.out]; rintro e w1 ⟨rfl, hf1⟩; have HF1 := Aside0.mk hf1; have HS1 := Aside0.mk (HS.out.kept hf1 (fun _ _ h => h)); clear hf1) | (go_at_call 25; refine (leafP_calls S 1 _ okI_1).mono ?_; rw [leafN_1]; rintro e w' ⟨rfl, rfl⟩) | (go_at_call 32; refine (chooseOpP_calls ns ns' f _ _ r S m v full w1 HW.out HS1.out HOF.out HR.out).mono ?_; rintro e w2 ⟨rfl, he⟩; have HE := Aside0.mk he; clear he))
  go_ret
  exact node_fr HF1.out ⟨rfl, HE.out⟩
set_option maxRecDepth 100000 in
set_option maxHeartbeats 4000000 in
theorem opAndR_no (ns : List N39) (f g : Int) (S m : Nat) (v : Value) (full : Bool) (w : World) (hw : WF ns) (hS : StAt 67 w S m v ns full) (ho : okI g) (hn : condF ns g = false) :
    Calls Try.prog 29 #[.pointer (some ⟨S, 0, none⟩), .int .i64 f, .int .i64 g] w (NodeEnd 67 w S m v ns full (-1002)) := by
  have HW := Aside0.mk hw
  have HS := Aside0.mk hS
  have HO := Aside0.mk ho
  have HC := Aside0.mk hn
  clear hw hS ho hn
  go_enter Try.func29, Try.ntmps29
  go_wp2_with (go_at_call 48; refine (condR_calls ns g S m v full w HW.out HS.out).mono ?_; rw [HC.out]; rintro e w1 ⟨rfl, hf1⟩; have HF1 := Aside0.mk hf1; clear hf1)
  go_ret
  exact end_now HS.out HF1.out _
set_option maxRecDepth 100000 in
set_option maxHeartbeats 4000000 in
theorem opAndR_yes (ns ns' : List N39) (f g r : Int) (S m : Nat) (v : Value) (full : Bool) (w : World) (hw : WF ns) (hS : StAt 67 w S m v ns full) (hof : okI f) (ho : okI g) (hn : condF ns g = true) (hr : ChRes ns f g (-1) ns' r) :
    Calls Try.prog 29 #[.pointer (some ⟨S, 0, none⟩), .int .i64 f, .int .i64 g] w (NodeEnd 67 w S m v ns' full r) := by
  have HW := Aside0.mk hw
  have HS := Aside0.mk hS
  have HOF := Aside0.mk hof
  have HO := Aside0.mk ho
  have HC := Aside0.mk hn
  have HR := Aside0.mk hr
  clear hw hS ho hn hof hr
  go_enter Try.func29, Try.ntmps29
  go_wp2_with (first | (go_at_call 48; refine (condR_calls ns g S m v full w HW.out HS.out).mono ?_; rw [HC.out]; rintro e w1 ⟨rfl, hf1⟩; have HF1 := Aside0.mk hf1; have HS1 := Aside0.mk (HS.out.kept hf1 (fun _ _ h => h)); clear hf1) | (go_at_call 33; refine (chooseOpR_calls ns ns' f _ _ r S m v full w1 HW.out HS1.out HOF.out HR.out).mono ?_; rintro e w2 ⟨rfl, he⟩; have HE := Aside0.mk he; clear he))
  go_ret
  exact node_fr HF1.out ⟨rfl, HE.out⟩
set_option maxRecDepth 100000 in
set_option maxHeartbeats 4000000 in
theorem opOrR_no (ns : List N39) (f g : Int) (S m : Nat) (v : Value) (full : Bool) (w : World) (hw : WF ns) (hS : StAt 67 w S m v ns full) (ho : okI g) (hn : condF ns g = false) :
    Calls Try.prog 31 #[.pointer (some ⟨S, 0, none⟩), .int .i64 f, .int .i64 g] w (NodeEnd 67 w S m v ns full (-1002)) := by
  have HW := Aside0.mk hw
  have HS := Aside0.mk hS
  have HO := Aside0.mk ho
  have HC := Aside0.mk hn
  clear hw hS ho hn
  go_enter Try.func31, Try.ntmps31
  go_wp2_with (go_at_call 48; refine (condR_calls ns g S m v full w HW.out HS.out).mono ?_; rw [HC.out]; rintro e w1 ⟨rfl, hf1⟩; have HF1 := Aside0.mk hf1; clear hf1)
  go_ret
  exact end_now HS.out HF1.out _
set_option maxRecDepth 100000 in
set_option maxHeartbeats 4000000 in
theorem opOrR_yes (ns ns' : List N39) (f g r : Int) (S m : Nat) (v : Value) (full : Bool) (w : World) (hw : WF ns) (hS : StAt 67 w S m v ns full) (hof : okI f) (ho : okI g) (hn : condF ns g = true) (hr : ChRes ns f (-2) g ns' r) :
    Calls Try.prog 31 #[.pointer (some ⟨S, 0, none⟩), .int .i64 f, .int .i64 g] w (NodeEnd 67 w S m v ns' full r) := by
  have HW := Aside0.mk hw
  have HS := Aside0.mk hS
  have HOF := Aside0.mk hof
  have HO := Aside0.mk ho
  have HC := Aside0.mk hn
  have HR := Aside0.mk hr
  clear hw hS ho hn hof hr
  go_enter Try.func31, Try.ntmps31
  go_wp2_with (first | (go_at_call 48; refine (condR_calls ns g S m v full w HW.out HS.out).mono ?_; rw [HC.out]; rintro e w1 ⟨rfl, hf1⟩; have HF1 := Aside0.mk hf1; have HS1 := Aside0.mk (HS.out.kept hf1 (fun _ _ h => h)); clear hf1) | (go_at_call 33; refine (chooseOpR_calls ns ns' f _ _ r S m v full w1 HW.out HS1.out HOF.out HR.out).mono ?_; rintro e w2 ⟨rfl, he⟩; have HE := Aside0.mk he; clear he))
  go_ret
  exact node_fr HF1.out ⟨rfl, HE.out⟩
set_option maxRecDepth 100000 in
set_option maxHeartbeats 4000000 in
theorem opNotP_calls (ns ns' : List N39) (f r : Int) (S m : Nat) (v : Value) (full : Bool) (w : World) (hw : WF ns) (hS : StAt 58 w S m v ns full) (hof : okI f) (hr : ChRes ns f (-1) (-2) ns' r) :
    Calls Try.prog 20 #[.pointer (some ⟨S, 0, none⟩), .int .i64 f] w (NodeEnd 58 w S m v ns' full r) := by
  have HW := Aside0.mk hw
  have HS := Aside0.mk hS
  have HOF := Aside0.mk hof
  have HR := Aside0.mk hr
  clear hw hS hof hr
  have tok1 : True := trivial
  go_enter Try.func20, Try.ntmps20
  go_wp2_with (first | (go_at_call 25; have _t := tok1; clear tok1; refine (leafP_calls S 0 _ okI_0).mono ?_; rw [leafN_0]; rintro e w' ⟨rfl, rfl⟩) | (go_at_call 25; refine (leafP_calls S 1 _ okI_1).mono ?_; rw [leafN_1]; rintro e w' ⟨rfl, rfl⟩) | (go_at_call 32; refine (chooseOpP_calls ns ns' f _ _ r S m v full w HW.out HS.out HOF.out HR.out).mono ?_; rintro e w2 ⟨rfl, he⟩; have HE := Aside0.mk he; clear he))
  go_ret
  exact ⟨rfl, HE.out⟩
set_option maxRecDepth 100000 in
set_option maxHeartbeats 4000000 in
theorem opNotR_calls (ns ns' : List N39) (f r : Int) (S m : Nat) (v : Value) (full : Bool) (w : World) (hw : WF ns) (hS : StAt 67 w S m v ns full) (hof : okI f) (hr : ChRes ns f (-1) (-2) ns' r) :
    Calls Try.prog 28 #[.pointer (some ⟨S, 0, none⟩), .int .i64 f] w (NodeEnd 67 w S m v ns' full r) := by
  have HW := Aside0.mk hw
  have HS := Aside0.mk hS
  have HOF := Aside0.mk hof
  have HR := Aside0.mk hr
  clear hw hS hof hr
  go_enter Try.func28, Try.ntmps28
  go_wp2_with ((go_at_call 33; refine (chooseOpR_calls ns ns' f _ _ r S m v full w HW.out HS.out HOF.out HR.out).mono ?_; rintro e w2 ⟨rfl, he⟩; have HE := Aside0.mk he; clear he))
  go_ret
  exact ⟨rfl, HE.out⟩
end Go.Proofs.Ytihikenmknphkaa.Q

namespace Go.Proofs.Ytihikenmknphkaa.Q
open Go Go.RowKit Go.Maps Go.Proofs.YtihikenmknphkaaW.PrintWords Go.Proofs.YtihikenmknphkaaW.PrintLast Go.Proofs.YtihikenmknphkaaW.PrintMore Go.Proofs.Ytihikenmknphkaa.M
set_option linter.unusedVariables false
set_option linter.unusedSimpArgs false

theorem fullP_calls (ns : List N39) (S m : Nat) (v : Value) (full : Bool) (w : World) (hS : StAt 58 w S m v ns full) :
    Calls Try.prog 11 #[.pointer (some ⟨S, 0, none⟩)] w fun e w' => e = .returned (.bool full) ∧ w = w' := by
  have q2 := hS.cell2
  clear hS
  go_enter Try.func11, Try.ntmps11
  go_wp2
  go_ret
  exact ⟨rfl, rfl⟩
end Go.Proofs.Ytihikenmknphkaa.Q

namespace Go.Proofs.Ytihikenmknphkaa.Q
open Go Go.RowKit Go.Maps Go.Proofs.YtihikenmknphkaaW.PrintWords Go.Proofs.YtihikenmknphkaaW.PrintLast Go.Proofs.YtihikenmknphkaaW.PrintMore Go.Proofs.Ytihikenmknphkaa.M
set_option linter.unusedVariables false
set_option linter.unusedSimpArgs false

/-- whether a test holds -/
def holdsB (hs : List Bool) (t : Int) : Bool := decide (t < hs.length) && rdOf false hs t
def runF (ns : List N39) (hs : List Bool) : Nat → Int → Int
  | 0, id => -1 - id
  | k + 1, id => if id < 0 then -1 - id else runF ns hs k (if holdsB hs (rd_T39 ns id).f0 then (rd_T39 ns id).f1 else (rd_T39 ns id).f2)
/-- what Run comes to -/
def runG (ns : List N39) (id : Int) (hs : List Bool) : Int := if validN ns id then runF ns hs (ns.length + 1) id else -1
theorem runF_leaf {ns : List N39} {hs : List Bool} {k : Nat} {id : Int} (h : id < 0) : runF ns hs k id = -1 - id := by
  cases k with
  | zero => rfl
  | succ k => unfold runF; rw [if_pos h]
theorem WF.test {ns : List N39} (h : WF ns) {x : Int} (h0 : 0 ≤ x) (hx : validN ns x = true) : 0 ≤ (rd_T39 ns x).f0 ∧ (rd_T39 ns x).f0 ≤ 1000 := by
  obtain ⟨hi, e⟩ := rd_int39 h0 (valid_lt hx).2
  rw [e]
  exact (h.nd _ hi).1
set_option maxRecDepth 100000 in
set_option maxHeartbeats 4000000 in
theorem runP_calls (ns : List N39) (id : Int) (S m : Nat) (v : Value) (full : Bool) (A2 : Option Addr) (c2 : Nat) (hs : List Bool) (w : World) (hw : WF ns) (hS : StAt 58 w S m v ns full) (hH : Kd.C Kd.bool w A2 hs.length hs) (hl : hs.length ≤ 1000000) :
    Calls Try.prog 19 #[.pointer (some ⟨S, 0, none⟩), .int .i64 id, .slice A2 hs.length c2] w fun e w' => e = .returned (.int .i64 (runG ns id hs)) ∧ Fr w w' (fun _ => False) := by
  have HW := Aside0.mk hw
  have HS := Aside0.mk hS
  have HH := Aside0.mk hH
  have hln := hS.len
  cases hv : validN ns id with
  | false =>
    have HE : Aside0 (runG ns id hs = -1) := ⟨by unfold runG; rw [hv]; rfl⟩
    have HV := Aside0.mk hv
    clear hw hS hH hv
    go_enter Try.func19, Try.ntmps19
    go_wp2_with (go_at_call 44; refine (validP_calls S m v ns full id w HS.out).mono ?_; rw [HV.out]; rintro e w' ⟨rfl, rfl⟩)
    go_ret
    exact ⟨by rw [HE.out]; rfl, Fr.refl _ _⟩
  | true =>
    have HE : Aside0 (runG ns id hs = runF ns hs (ns.length + 1) id) := ⟨by unfold runG; rw [hv]; rfl⟩
    have HV := Aside0.mk hv
    have hlt := valid_lt hv
    obtain ⟨A, c, ev⟩ := Kd.R_slice hS.row
    subst ev
    clear hw hS hH hv
    generalize runG ns id hs = res at HE ⊢
    go_enter Try.func19, Try.ntmps19
    go_wp2_with (go_at_call 44; refine (validP_calls S m _ ns full id w HS.out).mono ?_; rw [HV.out]; rintro e w' ⟨rfl, rfl⟩)
    go_loopg [1] (ns.length + 1) (fun kq v1 wr => ∃ x : Int, v1 = .int .i64 x ∧ Aside0 (validN ns x = true ∧ x < kq ∧ kq ≤ ns.length + 1) ∧ Aside0 (res = runF ns hs kq x) ∧ Aside0 (Fr w wr (fun _ => False)))
    case atStart => exact ⟨id, rfl, ⟨HV.out, by omega, Nat.le_refl _⟩, HE, ⟨Fr.refl _ _⟩⟩
    case round =>
      obtain ⟨x, rfl, HX, HR, HF⟩ := hrel
      have hxl := valid_lt HX.out.1
      by_cases hx : x < 0
      · have hd : decide (0 ≤ x) = false := by simp; omega
        have HE2 : Aside0 (res = -1 - x) := ⟨by rw [HR.out, runF_leaf hx]⟩
        go_wp2
        go_ret
        exact ⟨by rw [HE2.out]; rfl, HF.out⟩
      · have hp : 0 ≤ x := by omega
        have hd : decide (0 ≤ x) = true := by simpa using hp
        obtain ⟨k1, rfl⟩ : ∃ k1, gk = k1 + 1 := ⟨gk - 1, by have := HX.out.2.1; omega⟩
        have ht := HW.out.test hp HX.out.1
        have hways := HW.out.ways hp HX.out.1
        have hway := HW.out.way hp HX.out.1
        obtain ⟨ad, e, hx0, hx1, hx2⟩ := at_T39 (Kd.R_reads' HS.out.row).2.2 x hp hxl.2
        cases e
        have HRF : Aside0 (res = runF ns hs k1 (if holdsB hs (rd_T39 ns x).f0 then (rd_T39 ns x).f1 else (rd_T39 ns x).f2)) := ⟨by have := HR.out; unfold runF at this; rwa [if_neg hx] at this⟩
        have hc0 := HF.out.cell HS.out.cell0 (fun h => h)
        replace hx0 := HF.out.cell hx0 (fun h => h)
        replace hx1 := HF.out.cell hx1 (fun h => h)
        replace hx2 := HF.out.cell hx2 (fun h => h)
        have HY : Aside0 ((validN ns (rd_T39 ns x).f1 = true ∧ (rd_T39 ns x).f1 < (k1 : Int) ∧ k1 ≤ ns.length + 1) ∧ (validN ns (rd_T39 ns x).f2 = true ∧ (rd_T39 ns x).f2 < (k1 : Int) ∧ k1 ≤ ns.length + 1)) := ⟨by have := HX.out.2; exact ⟨⟨hways.1, by omega, by omega⟩, ⟨hways.2, by omega, by omega⟩⟩⟩
        generalize (rd_T39 ns x).f0 = t at hx0 ht HRF
        generalize (rd_T39 ns x).f1 = y at hx1 HRF HY hway hways
        generalize (rd_T39 ns x).f2 = n at hx2 HRF HY hway hways
        clear hway hways
        by_cases hlt2 : t < hs.length
        · obtain ⟨ah, e, hq⟩ := Kd.at_bool HH.out t ht.1 hlt2
          cases e
          replace hq := HF.out.cell hq (fun h => h)
          have hdl : decide (t < (hs.length : Int)) = true := by simpa using hlt2
          have HB : Aside0 (holdsB hs t = rdOf false hs t) := ⟨by unfold holdsB; rw [hdl]; rfl⟩
          cases hb : rdOf false hs t with
          | true =>
            rw [hb] at hq
            have hq2 := ((Fr.refl wr (fun _ => False)).alloc (.cells #[.int .i64 t, .int .i64 y, .int .i64 n] 39)).cell hq (fun h => h)
            have HN : Aside0 (res = runF ns hs k1 y) := ⟨by rw [HRF.out, HB.out, hb]; rfl⟩
            clear hb
            go_wp2
            go_roundg k1
            case measure => omega
            case rel => exact ⟨y, rfl, ⟨HY.out.1⟩, HN, ⟨by first | exact HF.out | exact HF.out.alloc _⟩⟩
          | false =>
            rw [hb] at hq
            have hq2 := ((Fr.refl wr (fun _ => False)).alloc (.cells #[.int .i64 t, .int .i64 y, .int .i64 n] 39)).cell hq (fun h => h)
            have HN : Aside0 (res = runF ns hs k1 n) := ⟨by rw [HRF.out, HB.out, hb]; rfl⟩
            clear hb
            go_wp2
            go_roundg k1
            case measure => omega
            case rel => exact ⟨n, rfl, ⟨HY.out.2⟩, HN, ⟨by first | exact HF.out | exact HF.out.alloc _⟩⟩
        · have hdl : decide (t < (hs.length : Int)) = false := by simpa using hlt2
          have HN : Aside0 (res = runF ns hs k1 n) := ⟨by rw [HRF.out]; unfold holdsB; rw [hdl]; rfl⟩
          go_wp2
          go_roundg k1
          case measure => omega
          case rel => exact ⟨n, rfl, ⟨HY.out.2⟩, HN, ⟨by first | exact HF.out | exact HF.out.alloc _⟩⟩
set_option maxRecDepth 100000 in
set_option maxHeartbeats 4000000 in
theorem runR_calls (ns : List N39) (id : Int) (S m : Nat) (v : Value) (full : Bool) (A2 : Option Addr) (c2 : Nat) (hs : List Bool) (w : World) (hw : WF ns) (hS : StAt 67 w S m v ns full) (hH : Kd.C Kd.bool w A2 hs.length hs) (hl : hs.length ≤ 1000000) :
    Calls Try.prog 52 #[.pointer (some ⟨S, 0, none⟩), .int .i64 id, .slice A2 hs.length c2] w fun e w' => e = .returned (.int .i64 (runG ns id hs)) ∧ Fr w w' (fun _ => False) := by
  have HW := Aside0.mk hw
  have HS := Aside0.mk hS
  have HH := Aside0.mk hH
  have hln := hS.len
  cases hv : validN ns id with
  | false =>
    have HE : Aside0 (runG ns id hs = -1) := ⟨by unfold runG; rw [hv]; rfl⟩
    have HV := Aside0.mk hv
    clear hw hS hH hv
    go_enter Try.func52, Try.ntmps52
    go_wp2_with (go_at_call 42; refine (validR_calls S m v ns full id w HS.out).mono ?_; rw [HV.out]; rintro e w' ⟨rfl, rfl⟩)
    go_ret
    exact ⟨by rw [HE.out]; rfl, Fr.refl _ _⟩
  | true =>
    have HE : Aside0 (runG ns id hs = runF ns hs (ns.length + 1) id) := ⟨by unfold runG; rw [hv]; rfl⟩
    have HV := Aside0.mk hv
    have hlt := valid_lt hv
    obtain ⟨A, c, ev⟩ := Kd.R_slice hS.row
    subst ev
    clear hw hS hH hv
    generalize runG ns id hs = res at HE ⊢
    go_enter Try.func52, Try.ntmps52
    go_wp2_with (go_at_call 42; refine (validR_calls S m _ ns full id w HS.out).mono ?_; rw [HV.out]; rintro e w' ⟨rfl, rfl⟩)
    go_loopg [1] (ns.length + 1) (fun kq v1 wr => ∃ x : Int, v1 = .int .i64 x ∧ Aside0 (validN ns x = true ∧ x < kq ∧ kq ≤ ns.length + 1) ∧ Aside0 (res = runF ns hs kq x) ∧ Aside0 (Fr w wr (fun _ => False)))
    case atStart => exact ⟨id, rfl, ⟨HV.out, by omega, Nat.le_refl _⟩, HE, ⟨Fr.refl _ _⟩⟩
    case round =>
      obtain ⟨x, rfl, HX, HR, HF⟩ := hrel
      have hxl := valid_lt HX.out.1
      by_cases hx : x < 0
      · have hd : decide (0 ≤ x) = false := by simp; omega
        have HE2 : Aside0 (res = -1 - x) := ⟨by rw [HR.out, runF_leaf hx]⟩
        go_wp2
        go_ret
        exact ⟨by rw [HE2.out]; rfl, HF.out⟩
      · have hp : 0 ≤ x := by omega
        have hd : decide (0 ≤ x) = true := by simpa using hp
        obtain ⟨k1, rfl⟩ : ∃ k1, gk = k1 + 1 := ⟨gk - 1, by have := HX.out.2.1; omega⟩
        have ht := HW.out.test hp HX.out.1
        have hways := HW.out.ways hp HX.out.1
        have hway := HW.out.way hp HX.out.1
        obtain ⟨ad, e, hx0, hx1, hx2⟩ := at_T39 (Kd.R_reads' HS.out.row).2.2 x hp hxl.2
        cases e
        have HRF : Aside0 (res = runF ns hs k1 (if holdsB hs (rd_T39 ns x).f0 then (rd_T39 ns x).f1 else (rd_T39 ns x).f2)) := ⟨by have := HR.out; unfold runF at this; rwa [if_neg hx] at this⟩
        have hc0 := HF.out.cell HS.out.cell0 (fun h => h)
        replace hx0 := HF.out.cell hx0 (fun h => h)
        replace hx1 := HF.out.cell hx1 (fun h => h)
        replace hx2 := HF.out.cell hx2 (fun h => h)
        have HY : Aside0 ((validN ns (rd_T39 ns x).f1 = true ∧ (rd_T39 ns x).f1 < (k1 : Int) ∧ k1 ≤ ns.length + 1) ∧ (validN ns (rd_T39 ns x).f2 = true ∧ (rd_T39 ns x).f2 < (k1 : Int) ∧ k1 ≤ ns.length + 1)) := ⟨by have := HX.out.2; exact ⟨⟨hways.1, by omega, by omega⟩, ⟨hways.2, by omega, by omega⟩⟩⟩
        generalize (rd_T39 ns x).f0 = t at hx0 ht HRF
        generalize (rd_T39 ns x).f1 = y at hx1 HRF HY hway hways
        generalize (rd_T39 ns x).f2 = n at hx2 HRF HY hway hways
        clear hway hways
        by_cases hlt2 : t < hs.length
        · obtain ⟨ah, e, hq⟩ := Kd.at_bool HH.out t ht.1 hlt2
          cases e
          replace hq := HF.out.cell hq (fun h => h)
          have hdl : decide (t < (hs.length : Int)) = true := by simpa using hlt2
          have HB : Aside0 (holdsB hs t = rdOf false hs t) := ⟨by unfold holdsB; rw [hdl]; rfl⟩
          cases hb : rdOf false hs t with
          | true =>
            rw [hb] at hq
            have hq2 := ((Fr.refl wr (fun _ => False)).alloc (.cells #[.int .i64 t, .int .i64 y, .int .i64 n] 39)).cell hq (fun h => h)
            have HN : Aside0 (res = runF ns hs k1 y) := ⟨by rw [HRF.out, HB.out, hb]; rfl⟩
            clear hb
            go_wp2
            go_roundg k1
            case measure => omega
            case rel => exact ⟨y, rfl, ⟨HY.out.1⟩, HN, ⟨by first | exact HF.out | exact HF.out.alloc _⟩⟩
          | false =>
            rw [hb] at hq
            have hq2 := ((Fr.refl wr (fun _ => False)).alloc (.cells #[.int .i64 t, .int .i64 y, .int .i64 n] 39)).cell hq (fun h => h)
            have HN : Aside0 (res = runF ns hs k1 n) := ⟨by rw [HRF.out, HB.out, hb]; rfl⟩
            clear hb
            go_wp2
            go_roundg k1
            case measure => omega
            case rel => exact ⟨n, rfl, ⟨HY.out.2⟩, HN, ⟨by first | exact HF.out | exact HF.out.alloc _⟩⟩
        · have hdl : decide (t < (hs.length : Int)) = false := by simpa using hlt2
          have HN : Aside0 (res = runF ns hs k1 n) := ⟨by rw [HRF.out]; unfold holdsB; rw [hdl]; rfl⟩
          go_wp2
          go_roundg k1
          case measure => omega
          case rel => exact ⟨n, rfl, ⟨HY.out.2⟩, HN, ⟨by first | exact HF.out | exact HF.out.alloc _⟩⟩
end Go.Proofs.Ytihikenmknphkaa.Q

namespace Go.Proofs.Ytihikenmknphkaa.Q
open Go Go.RowKit Go.Maps Go.Proofs.YtihikenmknphkaaW.PrintWords Go.Proofs.YtihikenmknphkaaW.PrintLast Go.Proofs.YtihikenmknphkaaW.PrintMore Go.Proofs.Ytihikenmknphkaa.M
set_option linter.unusedVariables false
set_option linter.unusedSimpArgs false

theorem atP_no (ns : List N39) (id : Int) (S m : Nat) (v : Value) (full : Bool) (w : World) (hS : StAt 58 w S m v ns full) (h : id < 0 ∨ ns.length ≤ id) :
    Calls Try.prog 17 #[.pointer (some ⟨S, 0, none⟩), .int .i64 id] w fun e w' => e = .returned (.tuple #[.agg #[.int .i64 0, .int .i64 0, .int .i64 0], .bool false]) ∧ Below w.heap.size w w' := by
  obtain ⟨A, c, rfl⟩ := Kd.R_slice hS.row
  have hc0 := ((Fr.refl w (fun _ => False)).alloc (.cells #[.int .i64 0, .int .i64 0, .int .i64 0] 39)).cell hS.cell0 (fun h => h)
  have hl := hS.len
  clear hS
  by_cases h0 : id < 0
  · have d0 : decide (id < 0) = true := by simpa using h0
    go_enter Try.func17, Try.ntmps17
    go_wp2
    refine bodyPost_ret ((results_cell_tmp (fn := Try.f17) (p := 4) (u := 5) (ty := 39) rfl _ _ _).trans (by go_simp; rfl)) rfl ?_
    exact ⟨rfl, by repeat (first | exact Below.refl _ _ | apply below_alloc | apply pw_below_drewN | apply below_drew1)⟩
  · have d0 : decide (id < 0) = false := by simpa using h0
    have d1 : decide ((ns.length : Int) ≤ id) = true := by simp; omega
    go_enter Try.func17, Try.ntmps17
    go_wp2
    refine bodyPost_ret ((results_cell_tmp (fn := Try.f17) (p := 4) (u := 5) (ty := 39) rfl _ _ _).trans (by go_simp; rfl)) rfl ?_
    exact ⟨rfl, by repeat (first | exact Below.refl _ _ | apply below_alloc | apply pw_below_drewN | apply below_drew1)⟩
theorem atP_yes (ns : List N39) (id : Int) (S m : Nat) (v : Value) (full : Bool) (w : World) (hS : StAt 58 w S m v ns full) (h0 : 0 ≤ id) (h1 : id < ns.length) :
    Calls Try.prog 17 #[.pointer (some ⟨S, 0, none⟩), .int .i64 id] w fun e w' => e = .returned (.tuple #[.agg #[.int .i64 (rd_T39 ns id).f0, .int .i64 (rd_T39 ns id).f1, .int .i64 (rd_T39 ns id).f2], .bool true]) ∧ Below w.heap.size w w' := by
  obtain ⟨A, c, rfl⟩ := Kd.R_slice hS.row
  obtain ⟨ad, e, hx0, hx1, hx2⟩ := at_T39 (Kd.R_reads' hS.row).2.2 id h0 h1
  cases e
  have hc0 := ((Fr.refl w (fun _ => False)).alloc (.cells #[.int .i64 0, .int .i64 0, .int .i64 0] 39)).cell hS.cell0 (fun h => h)
  have hl := hS.len
  have d0 : decide (id < 0) = false := by simp; omega
  have d1 : decide ((ns.length : Int) ≤ id) = false := by simp; omega
  replace hx0 := ((Fr.refl w (fun _ => False)).alloc (.cells #[.int .i64 0, .int .i64 0, .int .i64 0] 39)).cell hx0 (fun h => h)
  replace hx1 := ((Fr.refl w (fun _ => False)).alloc (.cells #[.int .i64 0, .int .i64 0, .int .i64 0] 39)).cell hx1 (fun h => h)
  replace hx2 := ((Fr.refl w (fun _ => False)).alloc (.cells #[.int .i64 0, .int .i64 0, .int .i64 0] 39)).cell hx2 (fun h => h)
  generalize rd_T39 ns id = x at hx0 hx1 hx2 ⊢
  clear hS
  go_enter Try.func17, Try.ntmps17
  go_wp2
  refine bodyPost_ret ((results_cell_tmp (fn := Try.f17) (p := 4) (u := 5) (ty := 39) rfl _ _ _).trans (by go_simp; rfl)) rfl ?_
  exact ⟨rfl, by repeat (first | exact Below.refl _ _ | apply below_alloc | apply pw_below_drewN | apply below_drew1)⟩
end Go.Proofs.Ytihikenmknphkaa.Q
