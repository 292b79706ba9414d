/-
  What flagstonedata.Links makes, in plain words. No condition.
-/
import Derived.Test.YtmhcpaohligjaaaD
import Derived.Test.YtmhcpaohligjaaaQ2
namespace Go.Proofs.Ytmhcpaohligjaaa.Q
open Go.RowKit Go.Proofs.YtmhcpaohligjaaaW.PrintWords Go.Proofs.YtmhcpaohligjaaaW.PrintLast Go.Proofs.Ytmhcpaohligjaaa.M
set_option linter.unusedVariables false

/-- the next number below n, and the place behind it -/
def nextV (l : List Int) (at_ n : Int) : Int × Int := if at_ < l.length then (rd l at_ % n, at_ + 1) else (0, at_)
/-- the ids of made data -/
def idsC : List ByteArray := [(⟨#[97, 110, 110]⟩ : ByteArray), (⟨#[98, 111, 98]⟩ : ByteArray), (⟨#[99, 97, 116]⟩ : ByteArray), (⟨#[100, 97, 110]⟩ : ByteArray), (⟨#[101, 118, 101]⟩ : ByteArray), (⟨#[102, 97, 121]⟩ : ByteArray)]
def idN (n : Int) : ByteArray := rdOf ByteArray.empty idsC n
/-- the second id's number: another one than the first's where no link may join an id to itself -/
def second (loose : Bool) (a b : Int) : Int := if a = b ∧ loose = false then (a + 1) % 6 else b
def linksN (l : List Int) (loose : Bool) : Nat → Int → Int → List S28 → Option (List S28)
  | 0, _, _, _ => none
  | k + 1, at_, time, out =>
    if at_ < l.length ∧ out.length < 30 then
      linksN l loose k (nextV l (nextV l (nextV l at_ 6).2 6).2 3).2 (time + (nextV l (nextV l (nextV l at_ 6).2 6).2 3).1)
        (out ++ [⟨idN (nextV l at_ 6).1, idN (second loose (nextV l at_ 6).1 (nextV l (nextV l at_ 6).2 6).1), time + (nextV l (nextV l (nextV l at_ 6).2 6).2 3).1⟩])
    else some out
def okU (l : List Int) : Prop := l.length ≤ 1000 ∧ ∀ x ∈ l, 0 ≤ x ∧ x ≤ 255
noncomputable def flagstonedata_Links.f (l0 : List Int) (a1 : Bool) : Option (List S28) := (grd (okU l0) ()).bind fun _ => linksN l0 a1 (l0.length + 1) 0 0 []

theorem rd_bound {l : List Int} (h : ∀ x ∈ l, 0 ≤ x ∧ x ≤ 255) (i : Int) : 0 ≤ rd l i ∧ rd l i ≤ 255 := by
  unfold rd
  rw [List.getD_eq_getElem?_getD]
  cases e : l[i.toNat]? with
  | none => simp
  | some x => simpa using h x (List.mem_of_getElem? e)
theorem nextV_bound {l : List Int} (h : ∀ x ∈ l, 0 ≤ x ∧ x ≤ 255) (i n : Int) (h0 : 0 ≤ i) (h1 : i ≤ l.length) (hn : 0 < n) :
    0 ≤ (nextV l i n).1 ∧ (nextV l i n).1 < n ∧ 0 ≤ (nextV l i n).2 ∧ (nextV l i n).2 ≤ l.length := by
  unfold nextV
  split
  · exact ⟨Int.emod_nonneg _ (by omega), Int.emod_lt_of_pos _ hn, by simp; omega, by simp; omega⟩
  · exact ⟨by simp, hn, h0, h1⟩
theorem more_f (l : List Int) (i : Int) : flagstonedata_Source_More.f l i = some (decide (i < l.length), i) := rfl
theorem next_f {l : List Int} (hl : l.length ≤ 1000) (h : ∀ x ∈ l, 0 ≤ x ∧ x ≤ 255) (i n : Int) (h0 : 0 ≤ i) (h1 : i ≤ l.length) (hn : 0 < n) : flagstonedata_Source_Next.f l i n = some (nextV l i n) := by
  unfold flagstonedata_Source_Next.f nextV
  by_cases hi : i < l.length
  · have e1 : wrap64 (i + 1) = i + 1 := by unfold wrap64; omega
    have e2 : wrap64 (wrap64 (i + 1) - 1) = i := by rw [e1]; unfold wrap64; omega
    have hb := rd_bound h i
    have e3 : wrap64 (rd l i) = rd l i := by unfold wrap64; omega
    rw [if_neg (by omega), e2, if_pos h0, if_pos hi, if_neg (by omega), if_pos hi, e1, e3, Int.tmod_eq_emod_of_nonneg hb.1]
  · rw [if_pos (by omega), if_neg hi]
theorem id_f {n : Int} (h0 : 0 ≤ n) (h1 : n < 6) : flagstonedata_Id.f n = some (idN n) := by
  have e : n = 0 ∨ n = 1 ∨ n = 2 ∨ n = 3 ∨ n = 4 ∨ n = 5 := by omega
  rcases e with rfl | rfl | rfl | rfl | rfl | rfl <;> rfl
theorem second_bound (loose : Bool) {a b : Int} (ha : 0 ≤ a ∧ a < 6) (hb : 0 ≤ b ∧ b < 6) : 0 ≤ second loose a b ∧ second loose a b < 6 := by
  unfold second
  split
  · omega
  · exact hb
end Go.Proofs.Ytmhcpaohligjaaa.Q
