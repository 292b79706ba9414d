/-
  The walks of flagstonedraw.Mod and flagstonelaw10.nodes. No condition beyond those that stand in each.
-/
import Derived.Test.YtkmcepeejleahaaO2
namespace Go.Proofs.Ytkmcepeejleahaa.Q
open Go.RowKit Go.Proofs.YtkmcepeejleahaaW.PrintWords Go.Proofs.YtkmcepeejleahaaW.PrintLast Go.Proofs.Ytkmcepeejleahaa.M
set_option linter.unusedVariables false
set_option linter.unusedSimpArgs false

theorem tmod_neg {x n : Int} (hx : x < 0) (h0 : 0 < n) : (x.tmod n = 0 ∧ x % n = 0) ∨ (x.tmod n < 0 ∧ -n < x.tmod n ∧ x % n = x.tmod n + n) := by
  obtain ⟨y, rfl⟩ : ∃ y, x = -y := ⟨-x, by omega⟩
  have e1 : (-y).tmod n = -(y % n) := by rw [Int.neg_tmod, Int.tmod_eq_emod_of_nonneg (by omega)]
  rw [e1]
  have hr0 := Int.emod_nonneg y (show n ≠ 0 by omega)
  have hr1 := Int.emod_lt_of_pos y h0
  have hd := Int.mul_ediv_add_emod y n
  generalize y % n = r at hr0 hr1 hd ⊢
  generalize y / n = q at hd
  by_cases e : r = 0
  · left
    refine ⟨by omega, ?_⟩
    have : -y = n * (-q) := by rw [Int.mul_neg]; omega
    rw [this, Int.mul_emod_right]
  · right
    refine ⟨by omega, by omega, ?_⟩
    have : -y = (n - r) + n * (-q - 1) := by rw [Int.mul_sub, Int.mul_neg]; omega
    rw [this, Int.add_mul_emod_self_left, Int.emod_eq_of_lt (by omega) (by omega)]
    omega
theorem mod_calls (x n : Int) (w : World) (hx : (Lit.int .i64 x).wf = true) (h0 : 0 < n) (h1 : n ≤ 1000000) :
    Calls Try.prog 18 #[.int .i64 x, .int .i64 n] w fun e w' => e = .returned (.int .i64 (x % n)) ∧ w = w' := by
  have hb : -9223372036854775808 ≤ x ∧ x ≤ 9223372036854775807 := by
    have := hx
    simp [Lit.wf, IntKind.min, IntKind.max, IntKind.signed, IntKind.bits] at this
    exact this
  by_cases hp : 0 ≤ x
  · have hr0 := Int.emod_nonneg x (show n ≠ 0 by omega)
    have hr1 := Int.emod_lt_of_pos x h0
    clear hx
    go_enter Try.func18, Try.ntmps18
    go_wp2
    go_ret
    exact ⟨rfl, rfl⟩
  · rcases tmod_neg (x := x) (n := n) (by omega) h0 with ⟨e1, e2⟩ | ⟨e1, e2, e3⟩
    · have E1 := Aside0.mk e2
      have hn : ¬ x.tmod n < 0 := by omega
      have hn2 : x.tmod n = 0 := e1
      clear hx e1 e2
      go_enter Try.func18, Try.ntmps18
      go_wp2
      go_ret
      exact ⟨by rw [E1.out]; rfl, rfl⟩
    · have E1 := Aside0.mk e3
      clear hx e3
      go_enter Try.func18, Try.ntmps18
      go_wp2
      go_ret
      exact ⟨by rw [E1.out]; rfl, rfl⟩

def allN : List ByteArray := [⟨#[100]⟩, ⟨#[97]⟩, ⟨#[102]⟩, ⟨#[98]⟩, ⟨#[101]⟩, ⟨#[99]⟩, ⟨#[103]⟩, ⟨#[]⟩]
def turnL (l : List ByteArray) (k : Nat) : List ByteArray := l.drop k ++ l.take k
def nodesF (n turn : Int) : List ByteArray :=
  if (n % 9).toNat = 0 then [] else turnL (allN.take (n % 9).toNat) (turn % ((n % 9).toNat : Int)).toNat
noncomputable def flagstonelaw10_nodes.f (a0 a1 : Int) : Option (List ByteArray) := grd ((Lit.int .i64 a0).wf = true ∧ (Lit.int .i64 a1).wf = true) (nodesF a0 a1)
theorem info9' : ∃ i, Try.prog.info? 9 = some i ∧ i.size = 1 := by
  have := info9
  cases h : Try.prog.info? 9 with
  | none => rw [h] at this; cases this
  | some i => rw [h] at this; simp at this; exact ⟨i, rfl, this.2.1⟩

set_option maxHeartbeats 2000000 in
theorem nodes_calls (n turn : Int) (w : World) (hn : (Lit.int .i64 n).wf = true) (ht : (Lit.int .i64 turn).wf = true) :
    Calls Try.prog 8 #[.int .i64 n, .int .i64 turn] w fun e w' => ∃ v0_ : Value, e = .returned v0_ ∧ Kd.R Kd.string 9 w' w.heap.size (fun _ => True) v0_ (nodesF n turn) ∧ Below w.heap.size w w' := by
  have hm : 0 ≤ n % 9 ∧ n % 9 < 9 := by omega
  obtain ⟨m, hmn⟩ : ∃ m : Nat, n % 9 = m := ⟨(n % 9).toNat, by omega⟩
  have hm9 : m < 9 := by omega
  have k1 := Aside0.mk (fun w => mod_calls n 9 w hn (by omega) (by omega))
  rw [hmn] at k1
  have HF : Aside0 (nodesF n turn = if m = 0 then [] else turnL (allN.take m) (turn % (m : Int)).toNat) := ⟨by unfold nodesF; rw [hmn]; rfl⟩
  obtain ⟨i9, hi9, hs9⟩ := info9'
  have hlA : allN.length = 8 := rfl
  have ht9 := print_take_of (P := Try.prog) Value.string ByteArray.empty 23 9 .i64 Try.underlying23 hi9 hs9 (some ⟨w.heap.size, 0, none⟩) 8 allN (m : Int) (by omega) (by omega) (by omega)
  have hlm : (allN.take m).length = m := by rw [List.length_take]; omega
  have hrun1 := ht9.1
  simp only [Int.toNat_natCast, hlm, hlA] at hrun1
  have HL : Aside0 (Kd.R Kd.string 9 (w.alloc (.cells #[.string ⟨#[100]⟩, .string ⟨#[97]⟩, .string ⟨#[102]⟩, .string ⟨#[98]⟩, .string ⟨#[101]⟩, .string ⟨#[99]⟩, .string ⟨#[103]⟩, .string ⟨#[]⟩] 9)) w.heap.size (fun _ => True) (.slice (some ⟨w.heap.size, 0, none⟩) 8 8) allN) := ⟨strs_lit w w.heap.size _ allN (Nat.le_refl _) trivial (by simp [allN])⟩
  clear hm hmn hn ht9 hlA
  by_cases h0 : m = 0
  · subst h0
    go_enter Try.func8, Try.ntmps8
    go_wp2_with (go_at_call 18; refine (k1.out _).mono ?_; rintro e w' ⟨rfl, rfl⟩)
    go_ret
    exact ⟨_, rfl, by rw [HF.out]; exact Kd.R_nil _ _ _ _ _, (Below.refl _ _).alloc (Nat.le_refl _) _⟩
  · have hm0 : 0 < m := by omega
    obtain ⟨k, hkm⟩ : ∃ k : Nat, turn % (m : Int) = k := ⟨(turn % (m : Int)).toNat, by have := Int.emod_nonneg turn (show (m : Int) ≠ 0 by omega); omega⟩
    have hk : k < m := by have := Int.emod_lt_of_pos turn (show (0 : Int) < m by omega); omega
    have k2 := Aside0.mk (fun w => mod_calls turn m w ht (by omega) (by omega))
    rw [hkm] at k2
    have HF2 : Aside0 (nodesF n turn = turnL (allN.take m) k) := ⟨by rw [HF.out, if_neg h0, hkm]; rfl⟩
    have hm1 : (m == 0) = false := by simpa using h0
    clear h0 hkm HF ht
    obtain ⟨A', hrun2, hC2, _⟩ := print_drop_of (P := Try.prog) Value.string ByteArray.empty 23 9 .i64 Try.underlying23 hi9 hs9 (some ⟨w.heap.size, 0, none⟩) 8 (allN.take m) (k : Int) (by omega) (by omega) (by omega)
    have hrun3 := (print_take_of (P := Try.prog) Value.string ByteArray.empty 23 9 .i64 Try.underlying23 hi9 hs9 (some ⟨w.heap.size, 0, none⟩) 8 (allN.take m) (k : Int) (by omega) (by omega) (by omega)).1
    have HLM : Aside0 (Kd.R Kd.string 9 (w.alloc (.cells #[.string ⟨#[100]⟩, .string ⟨#[97]⟩, .string ⟨#[102]⟩, .string ⟨#[98]⟩, .string ⟨#[101]⟩, .string ⟨#[99]⟩, .string ⟨#[103]⟩, .string ⟨#[]⟩] 9)) w.heap.size (fun _ => True) (.slice (some ⟨w.heap.size, 0, none⟩) (allN.take m).length 8) (allN.take m)) := ⟨by rw [hlm]; exact Kd.R_take HL.out (by simp [allN]; omega)⟩
    have HC2 := Aside0.mk hC2
    have hl2 : ((allN.take m).drop k).length = m - k := by rw [List.length_drop, hlm]
    have hl3 : ((allN.take m).take k).length = k := by rw [List.length_take, hlm]; omega
    simp only [Int.toNat_natCast, hlm, hl2, hl3] at hrun2 hrun3
    have HL2 := Aside0.mk hl2
    have HL3 := Aside0.mk hl3
    have HLMM := Aside0.mk hlm
    clear hC2 hl2 hl3 hlm hi9 hs9
    go_enter Try.func8, Try.ntmps8
    go_wp2_with (first | (go_at_call 18; (with_reducible refine (k1.out _).mono ?_); rintro e w' ⟨rfl, rfl⟩) | (go_at_call 18; (with_reducible refine (k2.out _).mono ?_); rintro e w' ⟨rfl, rfl⟩))
    have HBW : Aside0 (Below w.heap.size w (w.alloc (.cells #[.string ⟨#[100]⟩, .string ⟨#[97]⟩, .string ⟨#[102]⟩, .string ⟨#[98]⟩, .string ⟨#[101]⟩, .string ⟨#[99]⟩, .string ⟨#[103]⟩, .string ⟨#[]⟩] 9))) := ⟨(Below.refl _ _).alloc (Nat.le_refl _) _⟩
    generalize w.alloc (.cells #[.string ⟨#[100]⟩, .string ⟨#[97]⟩, .string ⟨#[102]⟩, .string ⟨#[98]⟩, .string ⟨#[101]⟩, .string ⟨#[99]⟩, .string ⟨#[103]⟩, .string ⟨#[]⟩] 9) = wa at HBW HLM ⊢
    refine start_ (n := 9) (S := fun _ => True) (ds := []) #[false, false, false, false, false, false, false, false, false] (by kernel_rfl) rfl rfl trivial (fun _ => ?_)
    refine pure_ (i := 0) (N := some 23) (v := ?_) (a' := ?_) #[true, false, false, false, false, false, false, false, false] rfl rfl (by kernel_rfl) (fun _ _ _ h => h) (Or.inl ⟨by rfl, ?_⟩) ?_ ?_
    rotate_left
    · intro w'
      go_simp
      with_reducible rfl
    rotate_left
    · simp only [Act.put, List.setIfInBounds_toArray, List.set_cons_zero, List.set_cons_succ, i64_w, i32_w]
      rfl
    refine pure_ (i := 1) (N := some 24) (v := ?_) (a' := ?_) #[true, true, false, false, false, false, false, false, false] rfl rfl (by kernel_rfl) (fun _ _ _ h => h) (Or.inl ⟨by rfl, ?_⟩) ?_ ?_
    rotate_left
    · intro w'
      go_simp
      with_reducible rfl
    rotate_left
    · simp only [Act.put, List.setIfInBounds_toArray, List.set_cons_zero, List.set_cons_succ, i64_w, i32_w]
      rfl
    refine pure_ (i := 2) (N := some 25) (v := ?_) (a' := ?_) #[true, true, true, false, false, false, false, false, false] rfl rfl (by kernel_rfl) (fun _ _ _ h => h) (Or.inl ⟨by rfl, ?_⟩) ?_ ?_
    rotate_left
    · intro w'
      go_simp
      with_reducible rfl
    rotate_left
    · simp only [Act.put, List.setIfInBounds_toArray, List.set_cons_zero, List.set_cons_succ, i64_w, i32_w]
      rfl
    refine pure_ (i := 4) (N := some 27) (v := ?_) (a' := ?_) #[true, true, true, false, true, false, false, false, false] rfl rfl (by kernel_rfl) (fun _ _ _ h => h) (Or.inl ⟨by rfl, ?_⟩) ?_ ?_
    rotate_left
    · intro w'
      go_simp
      with_reducible rfl
    rotate_left
    · simp only [Act.put, List.setIfInBounds_toArray, List.set_cons_zero, List.set_cons_succ, i64_w, i32_w]
      rfl
    refine pure_ (i := 5) (N := some 28) (v := ?_) (a' := ?_) #[true, true, true, false, true, true, false, false, false] rfl rfl (by kernel_rfl) (fun _ _ _ h => h) (Or.inl ⟨by rfl, ?_⟩) ?_ ?_
    rotate_left
    · intro w'
      go_simp
      with_reducible rfl
    rotate_left
    · simp only [Act.put, List.setIfInBounds_toArray, List.set_cons_zero, List.set_cons_succ, i64_w, i32_w]
      rfl
    refine pure_ (i := 6) (N := some 29) (v := ?_) (a' := ?_) #[true, true, true, false, true, true, true, false, false] rfl rfl (by kernel_rfl) (fun _ _ _ h => h) (Or.inl ⟨by rfl, ?_⟩) ?_ ?_
    rotate_left
    · intro w'
      go_simp
      with_reducible rfl
    rotate_left
    · simp only [Act.put, List.setIfInBounds_toArray, List.set_cons_zero, List.set_cons_succ, i64_w, i32_w]
      rfl
    have HLD : Aside0 (Kd.R Kd.string 9 wa.drew w.heap.size (fun _ => True) (.slice (some ⟨w.heap.size, 0, none⟩) (allN.take m).length 8) (allN.take m)) := ⟨Kd.R_drew HLM.out⟩
    have HBD : Aside0 (Below w.heap.size w wa.drew) := ⟨below_drew1 HBW.out⟩
    generalize wa.drew = wb at HLD HBD ⊢
    have HCD : Aside0 (Kd.C Kd.string wb A' (m - k) ((allN.take m).drop k)) := ⟨by have : Kd.C Kd.string wb A' ((allN.take m).drop k).length ((allN.take m).drop k) := Kd.C_of_reads (HC2.out wb (Kd.reads_of_C (d := ByteArray.empty) (Kd.R_reads' HLD.out).2.2)); rwa [HL2.out] at this⟩
    have HCT : Aside0 (Kd.C Kd.string wb (some ⟨w.heap.size, 0, none⟩) k ((allN.take m).take k)) := ⟨by have := Kd.C_take (m := k) (Kd.R_reads' HLD.out).2.2 (by rw [HLMM.out]; omega); rwa [HL3.out] at this⟩
    have HBS := Aside0.mk HBD.out.size
    refine one_ (i := 3) (N := some 26) #[true, true, true, true, true, true, true, false, false] rfl rfl (by kernel_rfl) (by decide) (fun K hK => ?_)
    refine Kd.R_append_rows_step Kd.string (Rr := Kd.string.K wb) (w0 := w) w.heap.size (by rfl) (.const (.slice none 0 0)) (.tmp 25) 23 9 (.string ⟨#[]⟩) 16 rfl Try.underlying23 info9 rfl (by decide) (by omega) (.slice none 0 0) [] ((allN.take m).drop k) A' (m - k) (8 - k) (fun q => q ≠ w.heap.size) (fun _ => False) rfl rfl (Kd.R_nil _ _ _ _ _) HCD.out (fun x cs h => h) (fun _ hk => hk.elim) (fun q hq => by have := Kd.R_lt HLD.out w.heap.size (by simp [Value.ownBlock]); omega) HBD.out HBS.out (by simp; omega) ?_
    intro v1 w1 hr hb hg hat
    simp only [List.nil_append] at hr
    have HR1 := Aside0.mk hr
    have HB1 := Aside0.mk hb
    have HCT1 : Aside0 (Kd.C Kd.string w1 (some ⟨w.heap.size, 0, none⟩) k ((allN.take m).take k)) := ⟨by
      have h1 : Kd.R Kd.string 9 w1 w.heap.size (fun _ => True) (.slice (some ⟨w.heap.size, 0, none⟩) (allN.take m).length 8) (allN.take m) := Kd.R_grown HLD.out hg (fun q hq e => by simp [Value.ownBlock] at e)
      have := Kd.C_take (m := k) (Kd.R_reads' h1).2.2 (by rw [HLMM.out]; omega)
      rwa [HL3.out] at this⟩
    clear hr hb hg hat
    refine hK.out _ _ trivial (fun _ => ?_)
    clear hK K
    refine norm_ (a' := ?_) ?_ ?_
    rotate_left
    · show Act.put _ (some 26) _ = _
      simp only [Act.put, List.setIfInBounds_toArray, List.set_cons_zero, List.set_cons_succ, i64_w, i32_w]
      rfl
    have HBS1 := Aside0.mk HB1.out.size
    refine one_ (i := 7) (N := some 30) #[true, true, true, true, true, true, true, true, false] rfl rfl (by kernel_rfl) (by decide) (fun K hK => ?_)
    refine Kd.R_append_rows_step Kd.string (Rr := Kd.string.K w1) (w0 := w) w.heap.size (by rfl) (.tmp 26) (.tmp 29) 23 9 (.string ⟨#[]⟩) 16 rfl Try.underlying23 info9 rfl (by decide) (by omega) v1 ((allN.take m).drop k) ((allN.take m).take k) (some ⟨w.heap.size, 0, none⟩) k 8 (fun q => True) (fun _ => False) rfl rfl (Kd.R_mono HR1.out (fun _ _ => trivial)) HCT1.out (fun x cs h => h) (fun _ hk => hk.elim) (fun q hq => trivial) HB1.out HBS1.out (by rw [HL2.out]; omega) ?_
    intro v2 w2 hr hb hg hat
    have HR2 := Aside0.mk hr
    have HB2 := Aside0.mk hb
    clear hr hb hg hat
    refine hK.out _ _ trivial (fun _ => ?_)
    clear hK K
    refine norm_ (a' := ?_) ?_ ?_
    rotate_left
    · show Act.put _ (some 30) _ = _
      simp only [Act.put, List.setIfInBounds_toArray, List.set_cons_zero, List.set_cons_succ, i64_w, i32_w]
      rfl
    refine pure_ (i := 8) (N := some 4) (v := ?_) (a' := ?_) #[true, true, true, true, true, true, true, true, true] rfl rfl (by kernel_rfl) (fun _ _ _ h => h) (Or.inl ⟨by rfl, ?_⟩) ?_ ?_
    rotate_left
    · intro w'
      go_simp
      with_reducible rfl
    rotate_left
    · simp only [Act.put, List.setIfInBounds_toArray, List.set_cons_zero, List.set_cons_succ, i64_w, i32_w]
      rfl
    refine done_ (by kernel_rfl) ?_
    go_wp2
    go_ret
    exact ⟨_, rfl, by rw [HF2.out]; exact HR2.out, HB2.out⟩
theorem flagstonelaw10_nodes.calls (a0 a1 : Int) (r : List ByteArray) (w : World) (h : flagstonelaw10_nodes.f a0 a1 = some r) :
    Calls Try.prog 8 #[.int .i64 a0, .int .i64 a1] w fun e w' => ∃ v0_ : Value, e = .returned (v0_) ∧ Kd.R Kd.string 9 w' w.heap.size (fun _ => True) v0_ r ∧ Below w.heap.size w w' := by
  obtain ⟨⟨h1, h2⟩, rfl⟩ := grd_some h
  exact nodes_calls a0 a1 w h1 h2
end Go.Proofs.Ytkmcepeejleahaa.Q
