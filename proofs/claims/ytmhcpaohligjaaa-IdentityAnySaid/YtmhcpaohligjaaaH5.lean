/-
  The walk of identity.Path. No condition beyond those that stand in it.
-/
import Derived.Test.YtmhcpaohligjaaaH4
import Derived.Deep.LoopGhost
namespace Go.Proofs.Ytmhcpaohligjaaa.Q
open Go.RowKit Go.Proofs.YtmhcpaohligjaaaW.PrintWords Go.Proofs.YtmhcpaohligjaaaW.PrintLast Go.Proofs.Ytmhcpaohligjaaa.M
set_option linter.unusedVariables false
set_option linter.unusedSimpArgs false

theorem path_none (A0 : Option Addr) (c0 : Nat) (l0 : List S28) (a b : ByteArray) (fuel : Nat) (far : Far) (w : World) (hr0 : Kd.C k28 w A0 l0.length l0) (hl : l0.length ≤ 1000000) (hok : okL l0) (ha : okS a) (hb : okS b)
    (hf : bfs l0 fuel (far0 b) [b] = some far) (hfa : far a = none) :
    Calls Try.prog 16 #[.slice A0 l0.length c0, .string a, .string b] w fun e w' => e = .returned (.tuple #[.slice none 0 0, .bool false]) ∧ Below w.heap.size w w' := by
  have c1 := dist_calls A0 c0 l0 b fuel far w hr0 hl hok hb hf
  have HA := Aside0.mk ha
  have HFA : Aside0 (iv far a = none) := ⟨by simp [iv, hfa]⟩
  clear hr0 hok ha hb hf hfa
  go_enter Try.func16, Try.ntmps16
  go_wp2_with fail
  go_step3
  go_wp2_with (first | (go_at_call 33; refine c1.mono ?_; rintro e w1 ⟨rfl, hs, hb⟩; have HS := Aside0.mk hs; have HB := Aside0.mk hb; clear hs hb) | (at_lookup; refine slookup_ok _ rfl _ _ 52 rfl 9 3 Try.underlying9 Try.underlying52 _ (zero3 _) w.heap.size _ (iv far) rfl HS.out a rfl HA.out ?_; rw [HFA.out]; simp only [Option.getD_none, Option.isSome_none]))
  rw [Exit.noGoto_ret]
  go_ret2
  exact ⟨rfl, HB.out⟩

set_option maxHeartbeats 2000000 in
theorem path_some (A0 : Option Addr) (c0 : Nat) (l0 : List S28) (a b : ByteArray) (fuel F : Nat) (far : Far) (d0 : Int) (res : List S28) (w : World) (hr0 : Kd.C k28 w A0 l0.length l0) (hl : l0.length ≤ 1000000) (hF : F ≤ 1000000000) (hok : okL l0) (ha : okS a) (hb : okS b)
    (hf : bfs l0 fuel (far0 b) [b] = some far) (hfa : far a = some d0) (hp : pathN far l0 b F a [] = some res) :
    Calls Try.prog 16 #[.slice A0 l0.length c0, .string a, .string b] w fun e w' => ∃ v0_ : Value, e = .returned (.tuple #[v0_, .bool true]) ∧ Kd.R k28 28 w' w.heap.size (fun _ => True) v0_ res ∧ Below w.heap.size w w' := by
  have c1 := dist_calls A0 c0 l0 b fuel far w hr0 hl hok hb hf
  have HA := Aside0.mk ha
  have HOK := Aside0.mk (allS_ok hok hb)
  have HFA : Aside0 (iv far a = some (.int .i64 d0)) := ⟨by simp [iv, hfa]⟩
  have HR0 := Aside0.mk hr0
  have HP := Aside0.mk hp
  have HFF := Aside0.mk hF
  clear hr0 hok ha hb hf hfa hp hF
  go_enter Try.func16, Try.ntmps16
  go_wp2_with fail
  go_step3
  go_wp2_with (first | (go_at_call 33; refine c1.mono ?_; rintro e w1 ⟨rfl, hs, hb⟩; have HS := Aside0.mk hs; have HB := Aside0.mk hb; clear hs hb) | (at_lookup; refine slookup_ok _ rfl _ _ 52 rfl 9 3 Try.underlying9 Try.underlying52 _ (zero3 _) w.heap.size _ (iv far) rfl HS.out a rfl HA.out ?_; rw [HFA.out]; simp only [Option.getD_some, Option.isSome_some]))
  go_step3
  go_wp2_with fail
  go_loopg [1, 11] F (fun kq v1 v11 wr => ∃ (x : ByteArray) (out : List S28), v1 = .string x ∧ Aside0 (pathN far l0 b kq x out = some res) ∧ Aside0 (out.length + kq ≤ F) ∧ Aside0 (okS x) ∧ Aside0 (SMap Try.prog 9 wr w.heap.size (allS l0 b).length (iv far)) ∧ Aside0 (Kd.R k28 28 wr w.heap.size (fun _ => True) v11 out) ∧ Aside0 (Below w.heap.size w wr))
  case atStart => exact ⟨a, [], rfl, HP, ⟨by simp⟩, HA, HS, ⟨Kd.R_nil _ _ _ _ _⟩, HB⟩
  case round =>
    clear HP HA HS HB HFA
    obtain ⟨y, out, rfl, HP, HLF, HY, HS, HO, HB⟩ := hrel
    cases gk with
    | zero => exact absurd HP.out (by simp [pathN])
    | succ k1 =>
      have hne := toList_beq y b
      by_cases hyb : y = b
      · rw [sameB_true hyb] at hne
        have hne2 : (y.toList != b.toList) = false := by simp [bne, hne]
        have e1 : out = res := by have := HP.out; simpa [pathN, hyb] using this
        have HO2 : Aside0 (Kd.R k28 28 wr w.heap.size (fun _ => True) u11 res) := ⟨by rw [← e1]; exact HO.out⟩
        clear hyb e1 HP HO
        go_wp2_with fail
        rw [Exit.noGoto_ret]
        go_ret2
        exact ⟨_, rfl, HO2.out, HB.out⟩
      · rw [sameB_false hyb] at hne
        have hne2 : (y.toList != b.toList) = true := by simp [bne, hne]
        have HP2 : Aside0 (nextP (fun x o => pathN far l0 b k1 x o) out (firstK far y l0) = some res) := ⟨by have := HP.out; simpa [pathN, hyb] using this⟩
        clear hyb HP
        obtain ⟨wo, rfl⟩ : ∃ wo : World, wo = wr := ⟨_, rfl⟩
        go_wp2_with fail
        go_loopg [1, 11, 34] l0.length (fun kq v1 v11 v34 wr => ∃ (m : Int), v1 = .string y ∧ v34 = .int .i64 m ∧ Aside0 (0 ≤ m ∧ m ≤ l0.length) ∧ Aside0 (kq + m.toNat = l0.length) ∧ Aside0 (firstK far y (l0.drop m.toNat) = firstK far y l0) ∧ Aside0 (SMap Try.prog 9 wr w.heap.size (allS l0 b).length (iv far)) ∧ Aside0 (Kd.R k28 28 wr w.heap.size (fun _ => True) v11 out) ∧ Aside0 (Below w.heap.size w wr))
        case atStart => exact ⟨0, rfl, rfl, ⟨by omega⟩, ⟨by simp⟩, ⟨by simp⟩, HS, HO, HB⟩
        case round =>
          clear HS HO HB
          obtain ⟨m, rfl, rfl, HM, HKM, HFK, HS, HO, HB⟩ := hrel
          by_cases hm : m < l0.length
          · have p2 : 0 ≤ m := HM.out.1
            obtain ⟨ad2, e, hx0, hx1, hx2⟩ := at_T28 HR0.out m p2 hm
            cases e
            replace hx0 := (HB.out.cell (World.block_lt_of_cell? w _ hx0)).trans hx0
            replace hx1 := (HB.out.cell (World.block_lt_of_cell? w _ hx1)).trans hx1
            replace hx2 := (HB.out.cell (World.block_lt_of_cell? w _ hx2)).trans hx2
            have HKS := Aside0.mk (allS_k (b := b) (rd_memI p2 hm))
            have HDC := Aside0.mk (drop_cons28 p2 hm)
            have HBS := Aside0.mk HB.out.size
            have HKN : Aside0 (∀ g', gk = g' + 1 → g' + (m + 1).toNat = l0.length) := ⟨by intro g' e; have := HKM.out; omega⟩
            generalize rd_T28 l0 m = k at hx0 hx1 hx2 HKS HDC
            have HOA : Aside0 (Below wr.heap.size wr (wr.alloc (.cells #[.string k.f0, .string k.f1, .int .i64 k.f2] 28))) := ⟨(Below.refl _ _).alloc (Nat.le_refl _) _⟩
            obtain ⟨g', rfl⟩ : ∃ g', gk = g' + 1 := ⟨gk - 1, by have := HKM.out; omega⟩
            cases hoc : otherO k y with
            | none =>
              have HST : Aside0 (firstK far y (l0.drop (m + 1).toNat) = firstK far y l0) := ⟨by rw [← HFK.out, HDC.out, firstK, hoc]⟩
              have HOC := Aside0.mk hoc
              clear hoc
              go_wp2_with (go_at_call 34; refine (other_calls k y _).mono ?_; rintro e w2 ⟨rfl, hb⟩; rw [HOC.out]; simp only [Option.getD_none, Option.isSome_none]; have HB2 := Aside0.mk (below_then HOA.out (by simp) hb); clear hb)
              go_roundg g'
              case measure => omega
              case rel => exact ⟨m + 1, rfl, rfl, ⟨by omega⟩, ⟨HKN.out _ rfl⟩, HST, ⟨HS.out.below HB2.out HS.out.lt⟩, ⟨Kd.R_below HO.out HB2.out⟩, ⟨below_then HB.out HBS.out HB2.out⟩⟩
            | some x =>
              have HXS : Aside0 (okS x) := ⟨HOK.out _ (otherO_in hoc HKS.out)⟩
              have HOC := Aside0.mk hoc
              have HVY : Aside0 ((iv far y).getD (.int .i64 0) = .int .i64 ((far y).getD 0)) := ⟨by unfold iv; cases far y <;> rfl⟩
              cases hfx : far x with
              | none =>
                have HST : Aside0 (firstK far y (l0.drop (m + 1).toNat) = firstK far y l0) := ⟨by rw [← HFK.out, HDC.out, firstK, hoc]; simp [hfx]⟩
                have HFX : Aside0 (iv far x = none) := ⟨by simp [iv, hfx]⟩
                clear hoc hfx
                go_wp2_with (first | (go_at_call 34; refine (other_calls k y _).mono ?_; rintro e w2 ⟨rfl, hb⟩; rw [HOC.out]; simp only [Option.getD_some, Option.isSome_some]; have HB2 := Aside0.mk (below_then HOA.out (by simp) hb); clear hb) | ((with_reducible refine gate_slot _ (N := 49) rfl ?_); at_lookup; refine slookup_ok _ rfl _ _ 52 rfl 9 3 Try.underlying9 Try.underlying52 _ (zero3 _) w.heap.size _ (iv far) rfl (HS.out.below HB2.out HS.out.lt) x rfl HXS.out ?_; rw [HFX.out]; simp only [Option.getD_none, Option.isSome_none]))
                go_roundg g'
                case measure => omega
                case rel => exact ⟨m + 1, rfl, rfl, ⟨by omega⟩, ⟨HKN.out _ rfl⟩, HST, ⟨HS.out.below HB2.out HS.out.lt⟩, ⟨Kd.R_below HO.out HB2.out⟩, ⟨below_then HB.out HBS.out HB2.out⟩⟩
              | some d =>
                have HFX : Aside0 (iv far x = some (.int .i64 d)) := ⟨by simp [iv, hfx]⟩
                by_cases hd : d = wrap64 ((far y).getD 0 - 1)
                · have HPX : Aside0 (pathN far l0 b k1 x (out ++ [k]) = some res) := ⟨by have h1 := HP2.out; rw [← HFK.out, HDC.out, firstK, hoc] at h1; simpa [hfx, hd, nextP] using h1⟩
                  have hde : (d == wrap64 ((far y).getD 0 - 1)) = true := by simpa using hd
                  generalize (far y).getD 0 = dy at HVY hde
                  clear hoc hfx hd HP2 HFK
                  go_wp2_with (first | (go_at_call 34; refine (other_calls k y _).mono ?_; rintro e w2 ⟨rfl, hb⟩; rw [HOC.out]; simp only [Option.getD_some, Option.isSome_some]; have HB2 := Aside0.mk (below_then HOA.out (by simp) hb); have bx := (hb.block wr.heap.size (by simp)).trans (blk_new wr _); clear hb; have q0 := blk_cell bx 0; have q1 := blk_cell bx 1; have q2 := blk_cell bx 2; simp at q0 q1 q2; clear bx) | ((with_reducible refine gate_slot _ (N := 49) rfl ?_); at_lookup; refine slookup_ok _ rfl _ _ 52 rfl 9 3 Try.underlying9 Try.underlying52 _ (zero3 _) w.heap.size _ (iv far) rfl (HS.out.below HB2.out HS.out.lt) x rfl HXS.out ?_; rw [HFX.out]; simp only [Option.getD_some, Option.isSome_some]; have hlk := SMap.look1 (MapIs.below HS.out HB2.out HS.out.lt) Try.underlying9 Try.underlying52 (zero3 _) HY.out; rw [HVY.out] at hlk) | (at_builtin; refine Kd.R_append k28 (w0 := w) w.heap.size rfl (.tmp 61) (.tmp 63) 24 28 (.agg #[(.string ⟨#[]⟩), (.string ⟨#[]⟩), (.int .i64 0)]) 40 rfl Try.underlying24 info28 rfl (by decide) (by omega) u11 out k [.string k.f0, .string k.f1, .int .i64 k.f2] (fun _ => True) (fun _ => False) rfl ?aX ?aP (fun _ hk => hk.elim) ?aF ?aO ?aB ?aS ?aL ?_))
                  case aX => first | rfl | (go_simp; done)
                  case aP => exact k28_mkM _ _ _ k
                  case aF => exact fun _ _ => trivial
                  case aO => exact Kd.R_below HO.out HB2.out
                  case aB => exact below_then HB.out HBS.out HB2.out
                  case aS => exact Nat.le_trans HBS.out HB2.out.size
                  case aL => have h1 := HLF.out; have h2 := HFF.out; omega
                  intro v1 w4 ho hb hg hat
                  have HS4 := Aside0.mk ((MapIs.below HS.out HB2.out HS.out.lt).kept hg (by obtain ⟨inner, hown⟩ := Kd.R_own HO.out; exact HS.out.ne_own hown))
                  have HO4 := Aside0.mk ho
                  have HB4 := Aside0.mk hb
                  clear ho hb hg hat
                  go_wp2_with fail
                  go_roundg k1
                  case measure => omega
                  case rel => exact ⟨x, out ++ [k], rfl, HPX, ⟨by have := HLF.out; simp; omega⟩, HXS, HS4, HO4, HB4⟩
                · have HST : Aside0 (firstK far y (l0.drop (m + 1).toNat) = firstK far y l0) := ⟨by rw [← HFK.out, HDC.out, firstK, hoc]; simp [hfx, hd]⟩
                  have hde : (d == wrap64 ((far y).getD 0 - 1)) = false := by simpa using hd
                  generalize (far y).getD 0 = dy at HVY hde
                  clear hoc hfx hd
                  go_wp2_with (first | (go_at_call 34; refine (other_calls k y _).mono ?_; rintro e w2 ⟨rfl, hb⟩; rw [HOC.out]; simp only [Option.getD_some, Option.isSome_some]; have HB2 := Aside0.mk (below_then HOA.out (by simp) hb); clear hb) | ((with_reducible refine gate_slot _ (N := 49) rfl ?_); at_lookup; refine slookup_ok _ rfl _ _ 52 rfl 9 3 Try.underlying9 Try.underlying52 _ (zero3 _) w.heap.size _ (iv far) rfl (HS.out.below HB2.out HS.out.lt) x rfl HXS.out ?_; rw [HFX.out]; simp only [Option.getD_some, Option.isSome_some]; have hlk := SMap.look1 (MapIs.below HS.out HB2.out HS.out.lt) Try.underlying9 Try.underlying52 (zero3 _) HY.out; rw [HVY.out] at hlk))
                  go_roundg g'
                  case measure => omega
                  case rel => exact ⟨m + 1, rfl, rfl, ⟨by omega⟩, ⟨HKN.out _ rfl⟩, HST, ⟨HS.out.below HB2.out HS.out.lt⟩, ⟨Kd.R_below HO.out HB2.out⟩, ⟨below_then HB.out HBS.out HB2.out⟩⟩
          · have hm2 : m = l0.length := by have := HM.out; omega
            have e1 : firstK far y l0 = none := by rw [← HFK.out, hm2]; simp [firstK]
            have e2 : out = res := by have := HP2.out; rw [e1] at this; simpa [nextP] using this
            have HO2 : Aside0 (Kd.R k28 28 wr w.heap.size (fun _ => True) u11 res) := ⟨by rw [← e2]; exact HO.out⟩
            clear hm2 e1 e2 HO HP2 HFK
            go_wp2_with fail
            go_ret2
            exact ⟨_, rfl, HO2.out, HB.out⟩

theorem identity_Path.calls (A0 : Option Addr) (c0 : Nat) (l0 : List S28) (a1 a2 : ByteArray) (r1 : List S28) (r2 : Bool) (w : World) (hr0 : Kd.C k28 w A0 l0.length l0) (hc0 : l0.length ≤ c0) (h : identity_Path.f l0 a1 a2 = some (r1, r2)) :
    Calls Try.prog 16 #[.slice A0 l0.length c0, .string a1, .string a2] w fun e w' => ∃ v0_ : Value, e = .returned (.tuple #[v0_, .bool r2]) ∧ Kd.R k28 28 w' w.heap.size (fun _ => True) v0_ r1 ∧ Below w.heap.size w w' := by
  obtain ⟨u, hu, h⟩ := Option.bind_eq_some_iff.1 h
  obtain ⟨⟨⟨hl, hok⟩, h1, h2⟩, _⟩ := grd_some hu
  unfold pathF at h
  cases hb : bfs l0 (fuelL l0) (far0 a2) [a2] with
  | none => rw [hb] at h; cases h
  | some far =>
    rw [hb] at h
    simp only at h
    cases hf : far a1 with
    | none =>
      rw [hf] at h
      simp only [Option.some.injEq, Prod.mk.injEq] at h
      obtain ⟨rfl, rfl⟩ := h
      refine (path_none A0 c0 l0 a1 a2 _ far w hr0 hl hok h1 h2 hb hf).mono ?_
      rintro e w' ⟨rfl, hw⟩
      exact ⟨_, rfl, Kd.R_nil _ _ _ _ _, hw⟩
    | some d =>
      rw [hf] at h
      simp only [Option.map_eq_some_iff] at h
      obtain ⟨p, hp, he⟩ := h
      cases he
      exact path_some A0 c0 l0 a1 a2 _ (fuelL l0) far d _ w hr0 hl (by unfold fuelL; omega) hok h1 h2 hb hf hp
end Go.Proofs.Ytmhcpaohligjaaa.Q
