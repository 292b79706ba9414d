/-
  The walks of identity's forest: root, join, of. No condition beyond those that stand in each.
-/
import Derived.Test.YtmhcpaohligjaaaD
import Derived.Outline
import Derived.Lib.MinMaxS
namespace Go.Proofs.Ytmhcpaohligjaaa.Q
open Go.RowKit Go.Proofs.YtmhcpaohligjaaaW.PrintWords Go.Proofs.YtmhcpaohligjaaaW.PrintLast Go.Proofs.Ytmhcpaohligjaaa.M

theorem zero9 (w : World) : (zeroValue 9).run Try.prog w = .ok (.string ⟨#[]⟩) w := by kernel_rfl

theorem root_calls (b n m : Nat) (p : For) (x r : ByteArray) (w : World) (h : SMap Try.prog 9 w b n (fv p)) (hr : RootIn p m x r) (hx : okS x) (hp : okF p) :
    Calls Try.prog 32 #[.map (some b), .string x] w fun e w' => e = .returned (.string r) ∧ w = w' := by
  go_enter Try.func32, Try.ntmps32
  go_wp2
  go_loopg [1] m (fun kq v1 w' => ∃ y, v1 = .string y ∧ Aside0 (RootIn p kq y r) ∧ Aside0 (okS y) ∧ w = w')
  case atStart => exact ⟨x, rfl, ⟨hr⟩, ⟨hx⟩, rfl⟩
  case round =>
    obtain ⟨y, rfl, H, HX, rfl⟩ := hrel
    have HS := Aside0.mk h
    have HP := Aside0.mk hp
    clear h hr hx hp
    cases gk with
    | zero =>
      obtain ⟨e0, rfl⟩ := H.out
      have E : Aside0 (fv p r = none) := ⟨by simp [fv, e0]⟩
      clear e0
      go_wp2_with (at_lookup; refine slookup_ok _ rfl _ _ 49 rfl 9 9 Try.underlying9 Try.underlying49 _ (zero9 _) b n (fv p) rfl HS.out r rfl HX.out ?_; rw [E.out]; simp only [Option.getD_none, Option.isSome_none])
      go_ret
      exact ⟨rfl, rfl⟩
    | succ k1 =>
      obtain ⟨z, e0, H2⟩ := H.out
      have HZ := Aside0.mk (HP.out _ _ e0).2
      have E : Aside0 (fv p y = some (.string z)) := ⟨by simp [fv, e0]⟩
      have H3 := Aside0.mk H2
      clear e0 H2 H
      go_wp2_with (at_lookup; refine slookup_ok _ rfl _ _ 49 rfl 9 9 Try.underlying9 Try.underlying49 _ (zero9 _) b n (fv p) rfl HS.out y rfl HX.out ?_; rw [E.out]; simp only [Option.getD_some, Option.isSome_some])
      go_roundg k1
      case measure => omega
      case rel => exact ⟨z, rfl, H3, HZ, rfl⟩

theorem join_same (b n m1 m2 : Nat) (p : For) (x y r : ByteArray) (w : World) (h : SMap Try.prog 9 w b n (fv p)) (h1 : RootIn p m1 x r) (h2 : RootIn p m2 y r) (hx : okS x) (hy : okS y) (hp : okF p) :
    Calls Try.prog 37 #[.map (some b), .string x, .string y] w fun e w' => e = .returned (.bool false) ∧ w = w' := by
  have c1 := root_calls b n m1 p x r w h h1 hx hp
  have c2 := root_calls b n m2 p y r w h h2 hy hp
  have tok1 : True := trivial
  go_enter Try.func37, Try.ntmps37
  go_wp2_with (first | (go_at_call 32; have _t := tok1; clear tok1; refine c1.mono ?_; rintro e w' ⟨rfl, rfl⟩) | (go_at_call 32; refine c2.mono ?_; rintro e w' ⟨rfl, rfl⟩))
  go_ret
  exact ⟨rfl, rfl⟩

theorem join_two (b n m1 m2 : Nat) (p : For) (x y r s : ByteArray) (w : World) (h : SMap Try.prog 9 w b n (fv p)) (h1 : RootIn p m1 x r) (h2 : RootIn p m2 y s) (hx : okS x) (hy : okS y) (hr : okS (Lib.maxS r s)) (hp : okF p) (hne : r ≠ s) (hn : n < maxLen) :
    Calls Try.prog 37 #[.map (some b), .string x, .string y] w fun e w' => e = .returned (.bool true) ∧ SMap Try.prog 9 w' b (n + 1) (fv (joinP p r s)) ∧ w.grownBy w' (some b) ∧ w'.heap.size = w.heap.size := by
  have c1 := root_calls b n m1 p x r w h h1 hx hp
  have c2 := root_calls b n m2 p y s w h h2 hy hp
  have tok1 : True := trivial
  have HS := Aside0.mk h
  have HR := Aside0.mk hr
  have HN := Aside0.mk hn
  have hb : (r.toList == s.toList) = false := by
    rw [beq_eq_false_iff_ne]
    intro e
    exact hne (toList_inj e)
  have hm1 := fun (w : World) (ts : Array TypeId) (t : TypeId) => Lib.run_max_strs (P := Try.prog) w ts t r s
  have hm2 := fun (w : World) (ts : Array TypeId) (t : TypeId) => Lib.run_min_strs (P := Try.prog) w ts t r s
  clear h hr hn hne h1 h2 hx hy hp
  go_enter Try.func37, Try.ntmps37
  go_wp2_with (first | (go_at_call 32; have _t := tok1; clear tok1; refine c1.mono ?_; rintro e w' ⟨rfl, rfl⟩) | (go_at_call 32; refine c2.mono ?_; rintro e w' ⟨rfl, rfl⟩) | (at_mapUpdate; refine sstore_one _ rfl _ _ _ 49 (Or.inl rfl) 9 9 Try.underlying9 Try.underlying49 b n (fv p) rfl HS.out HN.out (Lib.maxS r s) (.string (Lib.minS r s)) rfl rfl HR.out ?_; intro w1 hs1 hg1 hz1; rw [fv_joinP] at hs1; have HS1 := Aside0.mk hs1; have HG1 := Aside0.mk hg1; have HZ1 := Aside0.mk hz1; clear hs1 hg1 hz1))
  go_ret
  exact ⟨rfl, HS1.out, HG1.out, HZ1.out⟩

theorem of_calls (A0 : Option Addr) (c0 : Nat) (l0 : List S28) (w : World) (hr0 : Kd.C k28 w A0 l0.length l0) (hl : l0.length ≤ 1000000) (hok : okL l0) :
    Calls Try.prog 31 #[.slice A0 l0.length c0] w fun e w' => e = .returned (.map (some w.heap.size)) ∧ SMap Try.prog 9 w' w.heap.size l0.length (fv (ofL l0)) ∧ Below w.heap.size w w' := by
  have hmm := @run_makeMap Try.prog
  have HR0 := Aside0.mk hr0
  have HOK := Aside0.mk hok
  clear hr0 hok
  go_enter Try.func31, Try.ntmps31
  go_wp2
  go_loopw [9] (fun v9 wr => ∃ i : Int, v9 = .int .i64 i ∧ Aside0 (0 ≤ i ∧ i ≤ l0.length) ∧ Aside0 (SMap Try.prog 9 wr w.heap.size i.toNat (fv (ofL (l0.take i.toNat)))) ∧ Aside0 (Below w.heap.size w wr)) (fun v9 _ => l0.length - (intOf v9).toNat)
  case atStart => exact ⟨0, rfl, ⟨by omega⟩, ⟨SMap.made _ _ _⟩, ⟨(Below.refl _ _).alloc (Nat.le_refl _) _⟩⟩
  case round =>
    obtain ⟨i, rfl, HI, HS, HB⟩ := hrel
    by_cases hlt : i < l0.length
    · have p1 : 0 ≤ i := HI.out.1
      obtain ⟨ad, e, hx0, hx1, hx2⟩ := at_T28 HR0.out i p1 hlt
      cases e
      replace hx0 := (HB.out.cell (World.block_lt_of_cell? w _ hx0)).trans hx0
      replace hx1 := (HB.out.cell (World.block_lt_of_cell? w _ hx1)).trans hx1
      replace hx2 := (HB.out.cell (World.block_lt_of_cell? w _ hx2)).trans hx2
      have HT := Aside0.mk (tree_take l0 i.toNat)
      have HOF := Aside0.mk (HT.out.okF (okL_ids HOK.out))
      have hmem : rd_T28 l0 i ∈ l0 := rd_memI p1 hlt
      have HK0 := Aside0.mk (HOK.out _ hmem)
      have HM := Aside0.mk (mem_idsL hmem)
      obtain ⟨m1, hm1⟩ := HT.out.rootIn (rd_T28 l0 i).f0
      obtain ⟨m2, hm2⟩ := HT.out.rootIn (rd_T28 l0 i).f1
      have HM1 := Aside0.mk hm1
      have HM2 := Aside0.mk hm2
      have HT1 := Aside0.mk (ofL_next p1 hlt)
      have hbs : w.heap.size ≤ wr.heap.size := HB.out.size
      clear hmem hm1 hm2
      by_cases hr : rootC (ofL (l0.take i.toNat)) (rd_T28 l0 i).f0 = rootC (ofL (l0.take i.toNat)) (rd_T28 l0 i).f1
      · have HR := Aside0.mk hr
        clear hr
        go_wp2_with (go_at_call 37; refine (join_same _ _ m1 m2 _ _ _ _ _ (HS.out.alloc _) HM1.out (by rw [HR.out]; exact HM2.out) HK0.out.1 HK0.out.2 HOF.out).mono ?_; rintro e w' ⟨rfl, rfl⟩)
        go_roundw
        case rel => exact ⟨i + 1, rfl, ⟨by omega⟩, ⟨by rw [HT1.out, joinK, if_pos HR.out]; exact (HS.out.alloc _).mono (by omega)⟩, ⟨HB.out.alloc hbs _⟩⟩
        case measure => simp [intOf]; omega
      · have HR := Aside0.mk hr
        clear hr
        have hmx := HT.out.max_mem HM.out.1 HM.out.2
        have HMX := Aside0.mk (okL_ids HOK.out _ hmx)
        clear hmx
        go_wp2_with (go_at_call 37; refine (join_two _ _ m1 m2 _ _ _ _ _ _ (HS.out.alloc _) HM1.out HM2.out HK0.out.1 HK0.out.2 HMX.out HOF.out HR.out (by unfold maxLen; omega)).mono ?_; rintro e w1 ⟨rfl, hs1, hg1, hz1⟩; have HS1 := Aside0.mk hs1; have HG1 := Aside0.mk hg1; have HZ1 := Aside0.mk hz1; clear hs1 hg1 hz1)
        go_roundw
        case rel => exact ⟨i + 1, rfl, ⟨by omega⟩, ⟨by rw [HT1.out, joinK, if_neg HR.out]; exact HS1.out.mono (by omega)⟩, ⟨(HB.out.alloc hbs _).grown HG1.out (by simp; omega) (fun j hj => by cases hj; exact Nat.le_refl _)⟩⟩
        case measure => simp [intOf]; omega
    · have hi : i = l0.length := by have := HI.out; omega
      have HS2 : Aside0 (SMap Try.prog 9 wr w.heap.size l0.length (fv (ofL l0))) := ⟨by have := HS.out; rw [hi] at this; simpa using this⟩
      clear HS hi
      go_wp2
      go_ret
      exact ⟨rfl, HS2.out, HB.out⟩
end Go.Proofs.Ytmhcpaohligjaaa.Q
