/-
  slices.IndexFunc, ContainsFunc, Clone, Contains, Delete at rows of strings; the closures of graph.Order. No condition beyond those that stand in each.
-/
import Derived.Test.YtkmcepeejleahaaHC
import Derived.Deep.LoopGhost
namespace Go.Proofs.Ytkmcepeejleahaa.Q
open Go.RowKit Go.Proofs.YtkmcepeejleahaaW.PrintWords Go.Proofs.YtkmcepeejleahaaW.PrintLast Go.Proofs.Ytkmcepeejleahaa.M
set_option linter.unusedVariables false
set_option linter.unusedSimpArgs false

def idxF (p : ByteArray → Bool) (zs : List ByteArray) : Int := match zs.findIdx? p with | some i => i | none => -1
theorem idxF_hit {p : ByteArray → Bool} {zs : List ByteArray} {k : Nat} (hk : k < zs.length) (ha : ∀ x ∈ zs.take k, p x = false) (hp : p zs[k] = true) : idxF p zs = k := by
  unfold idxF
  have : zs.findIdx? p = some k := by
    rw [List.findIdx?_eq_some_iff_getElem]
    refine ⟨hk, hp, fun j hj => ?_⟩
    have := ha zs[j] (List.mem_iff_getElem.2 ⟨j, by simp; omega, by simp⟩)
    simp [this]
  rw [this]
theorem idxF_miss {p : ByteArray → Bool} {zs : List ByteArray} (ha : ∀ x ∈ zs, p x = false) : idxF p zs = -1 := by
  unfold idxF
  have : zs.findIdx? p = none := by
    rw [List.findIdx?_eq_none_iff]
    exact ha
  rw [this]
theorem rd_getS {l : List ByteArray} {i : Nat} (h : i < l.length) : rdOf ByteArray.empty l (i : Int) = l[i] := by
  simp [rdOf, List.getD_eq_getElem?_getD, List.getElem?_eq_getElem h]

set_option maxHeartbeats 1000000 in
theorem indexFunc_calls (g : Nat) (lb : Array Value) (eg : ∀ args w, (callFunc g args).run Try.prog w = .ok (.enter g args) w) (p : ByteArray → Bool) (A : Option Addr) (c : Nat) (zs : List ByteArray) (w : World) (hC : Kd.C Kd.string w A zs.length zs) (hl : zs.length ≤ 1000000000)
    (hp : ∀ x ∈ zs, Calls Try.prog g (#[.string x] ++ lb) w fun e w' => e = .returned (.bool (p x)) ∧ w = w') :
    Calls Try.prog 27 #[.slice A zs.length c, .func (.func g) #[] lb] w fun e w' => e = .returned (.int .i64 (idxF p zs)) ∧ w = w' := by
  have HC := Aside0.mk hC
  have HP := Aside0.mk hp
  clear hC hp
  go_enter Try.func27, Try.ntmps27
  go_wp2
  go_loopg [5, 8] zs.length (fun kq _ v8 wr => ∃ i : Int, v8 = .int .i64 i ∧ 0 ≤ i ∧ i ≤ zs.length ∧ zs.length ≤ kq + i.toNat ∧ w = wr ∧ Aside0 (∀ x ∈ zs.take i.toNat, p x = false))
  case atStart => exact ⟨0, rfl, by omega, by omega, by simp, rfl, ⟨by simp⟩⟩
  case round =>
    obtain ⟨i, rfl, h0, hk, hg, rfl, HA⟩ := hrel
    by_cases hlt : i < zs.length
    · obtain ⟨ad, e, hx⟩ := Kd.at_string HC.out i h0 hlt
      cases e
      have hn : i.toNat < zs.length := by omega
      have hrd : rdOf ByteArray.empty zs i = zs[i.toNat] := by have := rd_getS hn; rwa [Int.toNat_of_nonneg h0] at this
      rw [hrd] at hx
      have hcall := HP.out zs[i.toNat] (List.getElem_mem _)
      have HT : Aside0 (zs.take (i + 1).toNat = zs.take i.toNat ++ [zs[i.toNat]]) := ⟨by rw [show (i + 1).toNat = i.toNat + 1 by omega]; exact List.take_succ_eq_append_getElem hn⟩
      have HH : Aside0 ((∀ x ∈ zs.take i.toNat, p x = false) → p zs[i.toNat] = true → idxF p zs = i) := ⟨fun ha h => by rw [idxF_hit hn ha h]; omega⟩
      generalize zs[i.toNat] = y at hx hcall HT HH
      have hg2 : zs.length ≤ (gk - 1) + (i + 1).toNat := by omega
      have hg3 : gk - 1 < gk := by omega
      have HG2 := Aside0.mk hg2
      have HG3 := Aside0.mk hg3
      clear hg hn hrd hg2 hg3
      cases hq : p y with
      | true =>
        rw [hq] at hcall
        have HQ := Aside0.mk hq
        clear hq
        go_wp2_with (go_at_fn g; refine hcall.mono ?_; rintro e w' ⟨rfl, rfl⟩)
        go_ret
        exact ⟨by rw [HH.out HA.out HQ.out]; rfl, rfl⟩
      | false =>
        rw [hq] at hcall
        have HQ := Aside0.mk hq
        clear hq
        go_wp2_with (go_at_fn g; refine hcall.mono ?_; rintro e w' ⟨rfl, rfl⟩)
        go_roundg (gk - 1)
        case measure => exact HG3.out
        case rel =>
          refine ⟨i + 1, rfl, by omega, by omega, HG2.out, rfl, ⟨fun x hx => ?_⟩⟩
          rw [HT.out, List.mem_append, List.mem_singleton] at hx
          rcases hx with e | e
          · exact HA.out x e
          · rw [e]; exact HQ.out
    · have hk2 : i = zs.length := by omega
      have HM : Aside0 (idxF p zs = -1) := ⟨idxF_miss (by have := HA.out; rw [hk2] at this; simpa using this)⟩
      clear hk2 HA
      go_wp2
      go_ret
      exact ⟨by rw [HM.out]; rfl, rfl⟩
theorem idxF_any (p : ByteArray → Bool) (zs : List ByteArray) : decide (0 ≤ idxF p zs) = zs.any p := by
  unfold idxF
  cases h : zs.findIdx? p with
  | none =>
    rw [List.findIdx?_eq_none_iff] at h
    have : zs.any p = false := by rw [List.any_eq_false]; intro x hx; simp [h x hx]
    rw [this]
    rfl
  | some i =>
    rw [List.findIdx?_eq_some_iff_getElem] at h
    obtain ⟨hi, hp, _⟩ := h
    have : zs.any p = true := by rw [List.any_eq_true]; exact ⟨_, List.getElem_mem hi, hp⟩
    rw [this]
    simp
theorem enters27 (args : Array Value) (w : World) : (callFunc 27 args).run Try.prog w = .ok (.enter 27 args) w := enters_of Try.func27 (by kernel_rfl) rfl args w

set_option maxHeartbeats 1000000 in
theorem containsFunc_calls (g : Nat) (lb : Array Value) (eg : ∀ args w, (callFunc g args).run Try.prog w = .ok (.enter g args) w) (p : ByteArray → Bool) (A : Option Addr) (c : Nat) (zs : List ByteArray) (w : World) (hC : Kd.C Kd.string w A zs.length zs) (hl : zs.length ≤ 1000000000)
    (hp : ∀ x ∈ zs, Calls Try.prog g (#[.string x] ++ lb) w fun e w' => e = .returned (.bool (p x)) ∧ w = w') :
    Calls Try.prog 29 #[.slice A zs.length c, .func (.func g) #[] lb] w fun e w' => e = .returned (.bool (zs.any p)) ∧ w = w' := by
  have c1 := indexFunc_calls g lb eg p A c zs w hC hl hp
  have HA := Aside0.mk (idxF_any p zs)
  clear hC hp eg
  generalize idxF p zs = r at c1 HA
  generalize zs.any p = q at HA ⊢
  go_enter Try.func29, Try.ntmps29
  by_cases hr : 0 ≤ r
  · go_wp2_with (go_at_call 27; refine c1.mono ?_; rintro e w' ⟨rfl, rfl⟩)
    go_ret
    exact ⟨by rw [← HA.out]; simp [hr], rfl⟩
  · go_wp2_with (go_at_call 27; refine c1.mono ?_; rintro e w' ⟨rfl, rfl⟩)
    go_ret
    exact ⟨by rw [← HA.out]; simp [hr], rfl⟩

/-- the inner closure: not yet done -/
theorem order11_calls (x : ByteArray) (B D n : Nat) (s : Seen) (w : World) (hB : w.cell? ⟨B, 0, none⟩ = some (.map (some D))) (hs : SMap Try.prog 9 w D n (bv s)) (hx : okS x) :
    Calls Try.prog 30 (#[.string x] ++ #[.pointer (some ⟨B, 0, none⟩)]) w fun e w' => e = .returned (.bool (!(s x))) ∧ w = w' := by
  show Calls Try.prog 30 #[.string x, .pointer (some ⟨B, 0, none⟩)] w _
  have HS := Aside0.mk hs
  have HX := Aside0.mk hx
  have HQ := Aside0.mk (bv_get s x)
  clear hs hx
  generalize s x = q at HQ ⊢
  go_enter Try.func30, Try.ntmps30
  go_wp2_with (at_lookup; refine slookup_one _ rfl _ _ 53 rfl 9 4 Try.underlying9 Try.underlying53 _ (zero4 _) D _ (bv s) rfl HS.out x rfl HX.out ?_; rw [HQ.out])
  go_ret
  exact ⟨rfl, rfl⟩
theorem enters30 (args : Array Value) (w : World) : (callFunc 30 args).run Try.prog w = .ok (.enter 30 args) w := enters_of Try.func30 (by kernel_rfl) rfl args w
theorem enters28 (args : Array Value) (w : World) : (callFunc 28 args).run Try.prog w = .ok (.enter 28 args) w := enters_of Try.func28 (by kernel_rfl) rfl args w
theorem enters29 (args : Array Value) (w : World) : (callFunc 29 args).run Try.prog w = .ok (.enter 29 args) w := enters_of Try.func29 (by kernel_rfl) rfl args w

noncomputable def readyB (es : List S40) (s : Seen) (x : ByteArray) : Bool := !((needsL es x).any fun m => !(s m))
set_option maxHeartbeats 1000000 in
/-- the closure: all that it needs is done -/
theorem order1_calls (x : ByteArray) (BN BD N D n nn base : Nat) (p : ByteArray → Option Value) (es : List S40) (s : Seen) (w : World) (hBN : w.cell? ⟨BN, 0, none⟩ = some (.map (some N))) (hBD : w.cell? ⟨BD, 0, none⟩ = some (.map (some D))) (hN : NMap w base N nn p es) (hs : SMap Try.prog 9 w D n (bv s)) (hx : okS x) (hok : okE es) (hl : es.length ≤ 1000000) :
    Calls Try.prog 28 (#[.string x] ++ #[.pointer (some ⟨BN, 0, none⟩), .pointer (some ⟨BD, 0, none⟩)]) w fun e w' => e = .returned (.bool (readyB es s x)) ∧ w = w' := by
  show Calls Try.prog 28 #[.string x, .pointer (some ⟨BN, 0, none⟩), .pointer (some ⟨BD, 0, none⟩)] w _
  have HRW := Aside0.mk (hN.row x)
  obtain ⟨A29, c29, e29⟩ := Kd.R_slice HRW.out
  have HV := Aside0.mk e29
  have HCR : Kd.C Kd.string w A29 (needsL es x).length (needsL es x) := by have := HRW.out; rw [e29] at this; exact (Kd.R_reads' this).2.2
  have hnl := needsL_length es x
  have c1 := containsFunc_calls 30 #[.pointer (some ⟨BD, 0, none⟩)] enters30 (fun m => !(s m)) A29 c29 (needsL es x) w HCR (by omega) (fun m hm => order11_calls m BD D n s w hBD hs (okS_needs hok hm))
  have HN := Aside0.mk hN
  have HX := Aside0.mk hx
  unfold readyB
  generalize (needsL es x).any (fun m => !(s m)) = q at c1 ⊢
  clear e29 HCR hnl hN hs hx hok HRW
  go_enter Try.func28, Try.ntmps28
  go_wp2_with (first | (at_lookup; refine slookup_one _ rfl _ _ 52 rfl 9 23 Try.underlying9 Try.underlying52 _ (zero23 _) N _ p rfl HN.out.map x rfl HX.out ?_; rw [HV.out]) | (go_at_call 29; refine c1.mono ?_; rintro e w' ⟨rfl, rfl⟩))
  go_ret
  exact ⟨rfl, rfl⟩
end Go.Proofs.Ytkmcepeejleahaa.Q

namespace Go.Proofs.Ytkmcepeejleahaa.Q
open Go.RowKit Go.Proofs.YtkmcepeejleahaaW.PrintWords Go.Proofs.YtkmcepeejleahaaW.PrintLast Go.Proofs.Ytkmcepeejleahaa.M
set_option linter.unusedVariables false
set_option linter.unusedSimpArgs false

theorem row_cells {w : World} {base g c : Nat} {ok : Nat → Prop} {zs : List ByteArray} (h : Kd.R Kd.string 9 w base ok (.slice (some ⟨g, 0, none⟩) zs.length c) zs) : ∀ j, j < zs.length → w.cell? ⟨g, 0 + j, none⟩ = some (.string (zs.getD j ByteArray.empty)) := by
  intro j hj
  have h1 := (Kd.R_cell ByteArray.empty h (j : Int) (by omega) (by omega)).1
  simpa [rdOf] using h1
theorem contains_row {w : World} {base c : Nat} {ok : Nat → Prop} {A : Option Addr} {zs : List ByteArray} (h : Kd.R Kd.string 9 w base ok (.slice A zs.length c) zs) (hl : zs.length ≤ 1000000000) (x : ByteArray) :
    Calls Try.prog 26 #[.slice A zs.length c, .string x] w fun e w' => e = .returned (.bool (Lib.containsS zs x)) ∧ w = w' := by
  rcases Nat.eq_zero_or_pos zs.length with h0 | h0
  · obtain rfl : zs = [] := List.eq_nil_of_length_eq_zero h0
    refine (Try.slices_Contains_string_empty A c x w).mono ?_
    rintro e w' ⟨rfl, rfl⟩
    exact ⟨rfl, rfl⟩
  · obtain ⟨g, cap, e, _⟩ := Kd.R_form h h0
    cases e
    have h1 := Try.slices_Contains_string g 0 zs.length c zs x w (Nat.le_refl _) (by omega) (row_cells h)
    rw [List.take_length] at h1
    refine h1.mono ?_
    rintro e w' ⟨rfl, rfl⟩
    exact ⟨rfl, rfl⟩
theorem clone_row {w : World} {base c : Nat} {ok : Nat → Prop} {A : Option Addr} {zs : List ByteArray} (h : Kd.R Kd.string 9 w base ok (.slice A zs.length c) zs) (hl : zs.length ≤ 1000000000) :
    Calls Try.prog 25 #[.slice A zs.length c] w fun e w' => ∃ v', e = .returned v' ∧ Kd.R Kd.string 9 w' w.heap.size (fun _ => True) v' zs ∧ Below w.heap.size w w' := by
  rcases Nat.eq_zero_or_pos zs.length with h0 | h0
  · obtain rfl : zs = [] := List.eq_nil_of_length_eq_zero h0
    cases A with
    | none =>
      refine (Try.slices_Clone_string_nil 0 c w).mono ?_
      rintro e w' ⟨rfl, rfl⟩
      exact ⟨_, rfl, Kd.R_nil _ _ _ _ _, Below.refl _ _⟩
    | some a =>
      refine (Try.slices_Clone_string_zero a c w).mono ?_
      rintro e w' ⟨v', rfl, ho, _, hb⟩
      exact ⟨_, rfl, Kd.R_of_own ho (fun _ _ => trivial), hb⟩
  · obtain ⟨g, cap, e, _⟩ := Kd.R_form h h0
    cases e
    have h1 := Try.slices_Clone_string g 0 zs.length c zs w (Nat.le_refl _) (by omega) (row_cells h)
    rw [List.take_length] at h1
    refine h1.mono ?_
    rintro e w' ⟨v', rfl, ho, _, hb⟩
    exact ⟨_, rfl, Kd.R_of_own ho (fun _ _ => trivial), hb⟩

theorem bs_eraseIdx (zs : List ByteArray) (i : Nat) (h : i < zs.length) : sb ((bs zs).take i ++ (bs zs).drop (i + 1)) = zs.eraseIdx i := by
  rw [List.eraseIdx_eq_take_drop_succ]
  unfold sb bs
  rw [List.map_append, ← List.map_take, ← List.map_drop]
  have e : ∀ l : List ByteArray, (l.map fun s => s.data.toList).map (fun x => (⟨x.toArray⟩ : ByteArray)) = l := fun l => sb_bs l
  rw [e, e]
theorem delete_row {w : World} {base g c : Nat} {ok : Nat → Prop} {zs : List ByteArray} (h : Kd.R Kd.string 9 w base ok (.slice (some ⟨g, 0, none⟩) zs.length c) zs) (i : Nat) (hi : i < zs.length) :
    Calls Try.prog 31 #[.slice (some ⟨g, 0, none⟩) zs.length c, .int .i64 i, .int .i64 ((i : Int) + 1)] w fun e w' => e = .returned (.slice (some ⟨g, 0, none⟩) (zs.eraseIdx i).length c) ∧ Kd.R Kd.string 9 w' base ok (.slice (some ⟨g, 0, none⟩) (zs.eraseIdx i).length c) (zs.eraseIdx i) ∧ w.grownBy w' (some g) := by
  have hown := Kd.own_of_R h
  have hok := h.1
  rcases hown.2 with ⟨he, _⟩ | ⟨g', cap, cur, he, hbase, hb, h1, h2, h3, h4⟩
  · cases he
  · cases he
    have hc : cur.toList.take (bs zs).length = (bs zs).map encStr := by
      rw [bs_length, ← encs_sb, sb_bs]
      simpa using h4
    have hd := Try.slices_Delete_string g 0 c i (i + 1) (bs zs) w (holds_of_block hb hc) (by rw [bs_length]; exact h1) (by unfold maxLen at h2; omega) (by omega) (by rw [bs_length]; omega)
    rw [bs_length] at hd
    have hlen : (zs.eraseIdx i).length = zs.length - (i + 1 - i) := by rw [List.length_eraseIdx_of_lt hi]; omega
    have e1 : i + 1 - i = 1 := by omega
    rw [e1] at hd hlen
    refine (show Calls Try.prog 31 #[.slice (some ⟨g, 0, none⟩) zs.length c, .int .i64 i, .int .i64 ((i : Int) + 1)] w _ from hd).mono ?_
    rintro e w' ⟨rfl, q, rfl⟩
    refine ⟨by rw [hlen], ?_, ?_⟩
    · have h5 := ownsRow_sorted (ss := bs zs) (ts := (bs zs).take i ++ (bs zs).drop (i + 1) ++ List.replicate 1 []) (n := q) (os := #[]) (by simp [bs_length]; omega) hbase hb (by rw [bs_length]; exact h1) h2 h3
      rw [Sort.grow_empty, List.map_append] at h5
      have h6 := own_cut h5
      rw [List.length_map, ← encs_sb, bs_eraseIdx zs i hi] at h6
      refine Kd.R_of_own ?_ (fun k hk => hok k (by simpa [Value.ownBlock] using hk))
      have e2 : ((bs zs).take i ++ (bs zs).drop (i + 1)).length = (zs.eraseIdx i).length := by rw [← bs_eraseIdx zs i hi, sb_length]
      rw [e2] at h6
      exact h6
    · have h7 := grownBy_sorted (w := w) (g := g) (n := q) (os := #[]) ((bs zs).take i ++ (bs zs).drop (i + 1) ++ List.replicate 1 []).toArray
      rw [Sort.grow_empty] at h7
      exact h7

/-! ### the order, as a function -/
noncomputable def doneS (out : List ByteArray) : Seen := fun x => out.any fun y => eqS x y
theorem doneS_nil : doneS [] = fun _ => false := rfl
theorem doneS_snoc (out : List ByteArray) (x : ByteArray) : mark (doneS out) x = doneS (out ++ [x]) := by
  funext y
  simp only [mark, doneS, List.any_append, List.any_cons, List.any_nil, Bool.or_false]
  rw [Bool.or_comm]
theorem doneS_iff {out : List ByteArray} {x : ByteArray} : doneS out x = true ↔ x ∈ out := by
  unfold doneS
  rw [List.any_eq_true]
  constructor
  · rintro ⟨y, hy, e⟩
    rw [eqS_iff] at e
    exact e ▸ hy
  · intro h
    exact ⟨x, h, eqS_iff.2 rfl⟩
noncomputable def loopO (es : List S40) : Nat → List ByteArray → List ByteArray → List ByteArray × Int
  | 0, lf, out => (out, 0)
  | n + 1, lf, out => match lf.findIdx? (readyB es (doneS out)) with
    | none => ([], 12)
    | some i => loopO es n (lf.eraseIdx i) (out ++ [lf.getD i ByteArray.empty])
noncomputable def allIn (zs : List ByteArray) (es : List S40) : Bool := es.all fun e => Lib.containsS zs e.f0 && Lib.containsS zs e.f1
noncomputable def orderF (zs : List ByteArray) (es : List S40) : List ByteArray × Int :=
  if ((sortD zs).length : Int) ≠ ((sortL zs).length : Int) then ([], 10)
  else if allIn (sortL zs) es = true then loopO es zs.length (sortL zs) [] else ([], 11)
noncomputable def graph_Order.f (l0 : List ByteArray) (l1 : List S40) : Option (List ByteArray × Int) := grd ((l0.length ≤ 1000000 ∧ okL l0) ∧ l1.length ≤ 1000000 ∧ okE l1) (orderF l0 l1)
end Go.Proofs.Ytkmcepeejleahaa.Q
