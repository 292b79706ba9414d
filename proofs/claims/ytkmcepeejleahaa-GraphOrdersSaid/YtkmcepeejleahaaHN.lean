/-
  The walk of graph.Needs. No condition beyond those that stand in it.
-/
import Derived.Test.YtkmcepeejleahaaH2
import Derived.Test.YtkmcepeejleahaaT
import Derived.Maps.RangeWalk
namespace Go.Proofs.Ytkmcepeejleahaa.Q
open Go.RowKit Go.Proofs.YtkmcepeejleahaaW.PrintWords Go.Proofs.YtkmcepeejleahaaW.PrintLast Go.Proofs.Ytkmcepeejleahaa.M
set_option linter.unusedVariables false
set_option linter.unusedSimpArgs false

theorem key_inv {k : TypeId} {P : Program} (hk : P.underlying k = some .string) {key : Value} {kl : Lit} (h : keyOf P k key = some kl) : ∃ x, key = .string x := by
  cases key <;> simp [keyOf, hk, mapKey] at h
  exact ⟨_, rfl⟩
theorem key_sk {k : TypeId} {P : Program} (hk : P.underlying k = some .string) {x : ByteArray} {kl : Lit} (h : keyOf P k (.string x) = some kl) : kl = sk x := by
  simp [keyOf, hk, mapKey] at h
  exact h.2.symm
theorem sk_inj {x y : ByteArray} (h : sk x = sk y) : x = y := by
  unfold sk at h
  injection h with h
  cases x; cases y; simp at h; rw [h]
theorem sk_same (x y : ByteArray) : (sk x).sameKey (sk y) = true ↔ x = y := by
  constructor
  · intro h
    apply sk_inj
    revert h
    unfold sk
    simp [Lit.sameKey]
  · rintro rfl
    exact WideAt.sameKey_self trivial

/-- what has been collected while a map of marks is ranged over -/
structure Got (seen : Seen) (lft : Lit → Bool) (out : List ByteArray) : Prop where
  nodup : out.Nodup
  mem : ∀ x, x ∈ out ↔ (seen x = true ∧ lft (sk x) = false)
  lftIn : ∀ x, lft (sk x) = true → seen x = true
theorem Got.start {seen : Seen} {D : DataW Value} (h : Tells D (sf (bv seen))) : Got seen (Maps.has D) [] := by
  have e : ∀ x, Maps.has D (sk x) = seen x := by
    intro x
    rw [tells_has h, sf_sk]
    unfold bv
    cases seen x <;> rfl
  refine ⟨by simp, fun x => ?_, fun x => by rw [e]; exact id⟩
  rw [e]
  cases seen x <;> simp
theorem Got.next {seen : Seen} {lft : Lit → Bool} {out : List ByteArray} (h : Got seen lft out) {x : ByteArray} (hx : lft (sk x) = true) : Got seen (fun z => lft z && !z.sameKey (sk x)) (out ++ [x]) := by
  have hn : x ∉ out := fun hm => by have := ((h.mem x).1 hm).2; rw [hx] at this; cases this
  refine ⟨?_, fun y => ?_, fun y hy => h.lftIn y (by simp at hy; exact hy.1)⟩
  · rw [List.nodup_append]
    refine ⟨h.nodup, by simp, fun a ha b hb => ?_⟩
    simp at hb
    rintro rfl
    exact hn (hb ▸ ha)
  · rw [List.mem_append, h.mem y, List.mem_singleton]
    by_cases e : y = x
    · subst e
      simp [h.lftIn y hx, (sk_same y y).2 rfl]
    · have : (sk y).sameKey (sk x) = false := by
        cases hc : (sk y).sameKey (sk x) with
        | false => rfl
        | true => exact absurd ((sk_same y x).1 hc) e
      simp [e, this]
theorem Got.length {es : List S40} {a : ByteArray} {seen : Seen} {lft : Lit → Bool} {out : List ByteArray} (h : Got seen lft out) (hs : ∀ x, seen x = true ↔ Reach es a x) : out.length ≤ es.length := by
  have := nodup_le (S := es.map (·.f1)) h.nodup (fun x hx => reach_in ((hs x).1 ((h.mem x).1 hx).1))
  simpa using this
theorem Got.all {es : List S40} {a : ByteArray} {seen : Seen} {lft : Lit → Bool} {out : List ByteArray} (h : Got seen lft out) (hs : ∀ x, seen x = true ↔ Reach es a x) (hl : ∀ kl, lft kl = false) : sortL out = needF es a :=
  needF_of h.nodup (fun x => by rw [h.mem x, hs x]; simp [hl])

set_option maxHeartbeats 2000000 in
theorem graph_Needs.calls (A0 : Option Addr) (c0 : Nat) (l0 : List S40) (a1 : ByteArray) (r : List ByteArray) (w : World) (hr0 : Kd.C k40 w A0 l0.length l0) (hc0 : l0.length ≤ c0) (h : graph_Needs.f l0 a1 = some r) :
    Calls Try.prog 14 #[.slice A0 l0.length c0, .string a1] w fun e w' => ∃ v0_ : Value, e = .returned (v0_) ∧ Kd.R Kd.string 9 w' w.heap.size (fun _ => True) v0_ r ∧ Below w.heap.size w w' := by
  obtain ⟨⟨⟨hl, hok⟩, ha⟩, rfl⟩ := grd_some h
  have HOK := Aside0.mk hok
  have HA := Aside0.mk ha
  have c1 := table_calls A0 c0 l0 w hr0 hl hok
  clear h hok ha hr0
  go_enter Try.func14, Try.ntmps14
  go_wp2_with (first | (go_at_call 34; refine c1.mono ?_; rintro e w1 ⟨p, rfl, hn, hb⟩; have HN := Aside0.mk hn; have HB := Aside0.mk hb; clear hn hb) | (go_at_call 33; refine (reach_calls w.heap.size w.heap.size _ p l0 a1 w1 HN.out hl HOK.out HA.out).mono ?_; rintro e w2 ⟨seen, rfl, ⟨D, hs, ht⟩, hq, hb⟩; have HS := Aside0.mk hs; have HT := Aside0.mk ht; have HQ := Aside0.mk hq; have HB2 := Aside0.mk (below_then HB.out HB.out.size hb); clear hs ht hq hb) | (at_range; refine wpList_range_own _ rfl _ 53 rfl 9 4 (Maps.string_keyed Try.underlying9) Try.underlying53 mpR _ _ D rfl HS.out ?_; intro w0 hrg0 hg0 hs0; have HR0 := Aside0.mk hrg0; have HG0 := Aside0.mk hg0; have HZ0 := Aside0.mk hs0; clear hrg0 hg0 hs0))
  go_frame
  have HWB : Aside0 (w.heap.size ≤ w1.heap.size) := ⟨HB.out.size⟩
  have HBR : Aside0 (w1.heap.size < w2.heap.size) := ⟨HS.out.lt⟩
  have HBL : Aside0 (Below w.heap.size w w0) := ⟨HB2.out.grown HG0.out HB2.out.size (fun k e => by cases e)⟩
  clear HB HB2 HG0 HZ0 HN HS c1
  generalize w1.heap.size = B at HR0 HWB HBR ⊢
  generalize w2.heap.size = R at HR0 HBR ⊢
  have HGT := Aside0.mk (Got.start HT.out)
  go_loopw [5] (fun v5 wr => ∃ (lft : Lit → Bool) (cnt : Nat) (out : List ByteArray), Aside0 (wr.ranges Try.prog 9 mpR B R l0.length D lft cnt) ∧ Aside0 (Got seen lft out) ∧ Aside0 (Kd.R Kd.string 9 wr w.heap.size (fun k => k ≠ B ∧ k ≠ R) v5 out) ∧ Aside0 (Below w.heap.size w wr)) (fun _ wr => wr.rangeLeft B R)
  case atStart => exact ⟨_, _, [], HR0, HGT, ⟨Kd.R_nil _ _ _ _ _⟩, HBL⟩
  case round =>
    clear HR0 HGT HBL
    obtain ⟨lft, cnt, out, HRG, HG, HO, HBL⟩ := hrel
    go_wp2_with (at_next; refine wpList_next_ranges _ rfl _ rfl 9 (Maps.string_keyed Try.underlying9) mpR Value.string (fun v => v) (fun key kl hk => key_inv Try.underlying9 hk) (fun v y _ => ⟨v, rfl⟩) B R l0.length D _ _ rfl HRG.out ?_ ?_)
    · intro hc0 hl0
      have HR2 : Aside0 (sortL out = needF l0 a1) := ⟨HG.out.all HQ.out hl0⟩
      have HLN : Aside0 (out.length ≤ l0.length) := ⟨HG.out.length HQ.out⟩
      have c2 := sort_row u5 out wr w.heap.size _ HO.out (by have := HLN.out; omega)
      clear hc0 hl0
      go_wp2_with (first | (go_at_call 35; refine c2.mono ?_; rintro e w3 ⟨rfl, ho, hg⟩; have HO3 := Aside0.mk ho; have HG3 := Aside0.mk hg; clear ho hg))
      go_ret
      refine ⟨_, rfl, ?_, HBL.out.grown HG3.out HBL.out.size (own_base (Kd.own_of_R HO.out))⟩
      have := HO3.out
      rw [show sb ((bs out).mergeSort fun x y => decide (x ≤ y)) = needF l0 a1 from HR2.out] at this
      exact Kd.R_mono this (fun _ _ => trivial)
    · intro x v kl y y2 w4 cnt4 hkey hlft hv hat hrg4 hlt hg4 hz4 hen
      have hkx := key_sk Try.underlying9 hkey
      subst hkx
      have HG5 := Aside0.mk (HG.out.next hlft)
      have HRG4 := Aside0.mk hrg4
      have HG4 := Aside0.mk hg4
      have HLN : Aside0 (out.length ≤ l0.length) := ⟨HG.out.length HQ.out⟩
      have HLT := Aside0.mk hlt
      have HLE := Aside0.mk HRG.out.left_eq
      have HO4 : Aside0 (Kd.R Kd.string 9 w4 w.heap.size (fun k => k ≠ B ∧ k ≠ R) u5 out) := ⟨Kd.R_grown HO.out hg4 (fun q hq e => hq.2 (by injection e))⟩
      have HB4 : Aside0 (Below w.heap.size w w4) := ⟨HBL.out.grown hg4 HBL.out.size (fun k e => by cases e; have h1 := HWB.out; have h2 := HBR.out; omega)⟩
      have HRL := Aside0.mk hrg4.lt
      clear hkey hlft hv hat hrg4 hlt hg4 hz4 HO HG HBL
      go_wp2_with (at_builtin; refine Kd.R_append Kd.string (w0 := w) w.heap.size rfl (.tmp 16) (.tmp 18) 23 9 (.string ⟨#[]⟩) 16 rfl Try.underlying23 info9 rfl (by decide) (by omega) u5 out x [.string x] (fun k => k ≠ B ∧ k ≠ R) (fun _ => False) rfl ?aX ?aP (fun _ hk => hk.elim) ?aF ?aO ?aB ?aS ?aL ?_)
      case aX => first | rfl | (go_simp; done)
      case aP => rfl
      case aF => intro q hq; have h1 := HRL.out; have h2 := HBR.out; omega
      case aO => exact HO4.out
      case aB => exact HB4.out
      case aS => exact HB4.out.size
      case aL => have h1 := HLN.out; omega
      intro v1 w5 ho hb hg hat
      have HRG5 := Aside0.mk (HRG4.out.kept hg (fun e => (HO4.out.1 _ e.symm).1 rfl) (fun e => (HO4.out.1 _ e.symm).2 rfl))
      have HO5 := Aside0.mk ho
      have HB5 := Aside0.mk hb
      clear ho hb hg hat
      go_wp2
      go_roundw
      case rel => exact ⟨_, _, _, HRG5, HG5, HO5, HB5⟩
      case measure => rw [HRG5.out.left_eq, HLE.out]; exact HLT.out
end Go.Proofs.Ytkmcepeejleahaa.Q
