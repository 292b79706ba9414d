/-
  slices.Sort and slices.Compact at a slice of strings of the call's own. No condition beyond those that stand in each.
-/
import Derived.Test.YtkmcepeejleahaaM
import Derived.Test.YtkmcepeejleahaaQ0
import Derived.Test.YtkmcepeejleahaaShelf
import Derived.Sort.OwnSorted
namespace Go.Proofs.Ytkmcepeejleahaa.Q
open Go.RowKit Go.Proofs.YtkmcepeejleahaaW.PrintWords Go.Proofs.YtkmcepeejleahaaW.PrintLast Go.Proofs.Ytkmcepeejleahaa.M
set_option linter.unusedVariables false

def bs (ss : List ByteArray) : List (List UInt8) := ss.map fun s => s.data.toList
def sb (xs : List (List UInt8)) : List ByteArray := xs.map fun x => ⟨x.toArray⟩
theorem sb_bs (ss : List ByteArray) : sb (bs ss) = ss := by
  unfold sb bs
  rw [List.map_map]
  exact (List.map_congr_left (fun s _ => by simp)).trans (List.map_id _)
theorem bs_sb (xs : List (List UInt8)) : bs (sb xs) = xs := by
  unfold sb bs
  rw [List.map_map]
  exact (List.map_congr_left (fun s _ => by simp)).trans (List.map_id _)
theorem encs_sb (xs : List (List UInt8)) : encs Value.string (sb xs) = xs.map encStr := by
  unfold encs sb
  rw [List.map_map]
  rfl
theorem sb_length (xs : List (List UInt8)) : (sb xs).length = xs.length := by simp [sb]
theorem bs_length (xs : List ByteArray) : (bs xs).length = xs.length := by simp [bs]

theorem sort_row (v : Value) (ss : List ByteArray) (w : World) (base : Nat) (ok : Nat → Prop) (ho : Kd.R Kd.string 9 w base ok v ss) (hl : ss.length ≤ 1000000000) :
    Calls Try.prog 35 #[v] w fun e w' => e = .returned (.tuple #[]) ∧ Kd.R Kd.string 9 w' base ok v (sb ((bs ss).mergeSort fun x y => decide (x ≤ y))) ∧ w.grownBy w' v.ownBlock := by
  have hown := Kd.own_of_R ho
  have hok := ho.1
  rcases hown.2 with ⟨rfl, h0⟩ | ⟨g, cap, cur, rfl, hbase, hb, h1, h2, h3, h4⟩
  · obtain rfl : ss = [] := List.eq_nil_of_length_eq_zero h0
    refine (Try.slices_Sort_string_none none 0 w).mono ?_
    rintro e w' ⟨rfl, rfl⟩
    exact ⟨rfl, by simpa [bs, sb] using ho, by simp [Value.ownBlock]; exact ⟨rfl, rfl, rfl, Nat.le_refl _, fun _ _ _ => rfl⟩⟩
  · have hc : cur.toList.take (bs ss).length = (bs ss).map encStr := by
      rw [bs_length, ← encs_sb, sb_bs]
      simpa using h4
    have h := Try.slices_Sort_string g 0 cap (bs ss) w (holds_of_block hb hc) (Array.getElem?_eq_some_iff.1 hb).1 (by rw [bs_length]; omega)
    rw [bs_length] at h
    refine h.mono ?_
    rintro e w' ⟨rfl, n, os, rfl⟩
    refine ⟨rfl, ?_, ?_⟩
    · have h5 := ownsRow_sorted (ss := bs ss) (ts := (bs ss).mergeSort fun x y => decide (x ≤ y)) (n := n) (os := os) (by simp) hbase hb (by rw [bs_length]; exact h1) h2 h3
      rw [bs_length, ← encs_sb] at h5
      exact Kd.R_of_own (by rw [sb_length, List.length_mergeSort, bs_length]; exact h5) hok
    · exact grownBy_sorted _

theorem strs_lit (W : World) (base : Nat) (ok : Nat → Prop) (xs : List ByteArray) (hb : base ≤ W.heap.size) (hok : ok W.heap.size) (hl : xs.length ≤ 1000000000) :
    Kd.R Kd.string 9 (W.alloc (.cells (encs Value.string xs).toArray 9)) base ok (.slice (some ⟨W.heap.size, 0, none⟩) xs.length xs.length) xs := by
  refine Kd.R_of_own ⟨by simp [encs], .inr ⟨W.heap.size, xs.length, _, rfl, hb, blk_new W _, Nat.le_refl _, by unfold maxLen; omega, by simp [encs], ?_⟩⟩ (fun k hk => ?_)
  · simp only [Nat.mul_one]
    rw [List.take_of_length_le (by simp [encs])]
  · simp [Value.ownBlock] at hk
    exact hk ▸ hok

theorem own_cut {w : World} {base g n cap : Nat} {e : TypeId} {xs ys : List Value} (h : w.ownsRow base e 1 (.slice (some ⟨g, 0, none⟩) n cap) n (xs ++ ys)) : w.ownsRow base e 1 (.slice (some ⟨g, 0, none⟩) xs.length cap) xs.length xs := by
  obtain ⟨hl, h⟩ := h
  rcases h with ⟨h, _⟩ | ⟨g', cap', cur, hv, hbase, hb, h1, h2, h3, h4⟩
  · cases h
  · cases hv
    refine ⟨by simp, .inr ⟨g, cap, cur, rfl, hbase, hb, ?_, h2, h3, ?_⟩⟩
    · simp at hl; omega
    · simp at hl h4 ⊢
      have h5 := congrArg (List.take xs.length) h4
      rw [List.take_take] at h5
      simpa [show min xs.length n = xs.length by omega] using h5

theorem compact_row (v : Value) (ss : List ByteArray) (w : World) (base : Nat) (ok : Nat → Prop) (ho : Kd.R Kd.string 9 w base ok v ss) (hl : ss.length ≤ 1000000000) :
    Calls Try.prog 24 #[v] w fun e w' => ∃ v', e = .returned v' ∧ Kd.R Kd.string 9 w' base ok v' (sb (Lib.compact (bs ss))) ∧ w.grownBy w' v.ownBlock := by
  have hown := Kd.own_of_R ho
  have hok := ho.1
  rcases hown.2 with ⟨rfl, h0⟩ | ⟨g, cap, cur, rfl, hbase, hb, h1, h2, h3, h4⟩
  · obtain rfl : ss = [] := List.eq_nil_of_length_eq_zero h0
    refine (Try.slices_Compact_string_empty none 0 w).mono ?_
    rintro e w' ⟨rfl, rfl⟩
    exact ⟨_, rfl, by simpa [bs, sb, Lib.compact, Lib.compactUpTo] using ho, by simp [Value.ownBlock]; exact ⟨rfl, rfl, rfl, Nat.le_refl _, fun _ _ _ => rfl⟩⟩
  · have hc : cur.toList.take (bs ss).length = (bs ss).map encStr := by
      rw [bs_length, ← encs_sb, sb_bs]
      simpa using h4
    have h := Try.slices_Compact_string g 0 cap (bs ss) w (holds_of_block hb hc) (by rw [bs_length]; omega) (by rw [bs_length]; exact h1)
    rw [bs_length] at h
    refine h.mono ?_
    rintro e w' ⟨rfl, q, rfl⟩
    have hle := Lib.compact_length_le (bs ss)
    rw [bs_length] at hle
    refine ⟨_, rfl, ?_, ?_⟩
    · have h5 := ownsRow_sorted (ss := bs ss) (ts := Lib.compact (bs ss) ++ List.replicate (ss.length - (Lib.compact (bs ss)).length) []) (n := q) (os := #[]) (by rw [bs_length]; simp; omega) hbase hb (by rw [bs_length]; exact h1) h2 h3
      rw [Sort.grow_empty, List.map_append] at h5
      have h6 := own_cut h5
      rw [List.length_map, ← encs_sb] at h6
      exact Kd.R_of_own (by rw [sb_length]; exact h6) (fun k hk => hok k hk)
    · have h7 := grownBy_sorted (w := w) (g := g) (n := q) (os := #[]) (Lib.compact (bs ss) ++ List.replicate (ss.length - (Lib.compact (bs ss)).length) []).toArray
      rw [Sort.grow_empty] at h7
      exact h7
end Go.Proofs.Ytkmcepeejleahaa.Q
