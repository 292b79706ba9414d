/-
  holds: its plain form and its walk, as wip/tools/qprint.py printed it (one row by hand, in the last way). No condition.
  Diagrams: the maker of the law in memory: two stores, a row of pairs of ids. No condition.
  Diagrams: the walk of the maker's add, for the same id in both stores. No condition beyond those that stand in each. (Written by wip/tools/gen_add.py.)
  Diagrams: the drawn choices plainly; the state of 'made' between its rounds. No condition beyond those that stand in each.
  Diagrams: one store and its calls; the walk of awake. No condition beyond those that stand in each.
-/
import Derived.Test.YtihikenmknphkaaQ0
import Derived.Test.YtihikenmknphkaaTA
import Derived.Test.YtihikenmknphkaaQ1
namespace Go.Proofs.Ytihikenmknphkaa.Q
open Go.RowKit Go.Proofs.YtihikenmknphkaaW.PrintWords Go.Proofs.YtihikenmknphkaaW.PrintLast Go.Proofs.YtihikenmknphkaaW.PrintMore
attribute [local go_sem] max2_int min2_int max_two min_two max_three min_three max_four min_four   -- for this text's walks alone
set_option linter.unusedVariables false
set_option linter.unusedSimpArgs false

/-! ### flagstonelaw17_holds: function 51 -/
noncomputable def flagstonelaw17_holds.l0 : Nat → Int → List Bool → Int → Int → Option (List Bool)
  | 0, _, _, _, _ => none
  | k + 1, x0, x3, x7, x8 => if x8 < x7 then (if 0 ≤ (IntKind.u64.wrap (x8)) then (if 0 ≤ x8 then (if x8 < (x3.length : Int) then (flagstonelaw17_holds.l0 k x0 (x3.set (x8 : Int).toNat ((Go.bits .and .i64 (shr .i64 x0 (IntKind.u64.wrap (x8))) 1) == 1)) x7 (wrap64 (x8 + 1))) else (none)) else (none)) else (none)) else (some x3)
noncomputable def flagstonelaw17_holds.f (k : Nat) (a0 : Int) : Option (List Bool) := if 6 ≤ 281474976710656 then ((some (List.replicate 6 false : List Bool)).bind fun y113 => (flagstonelaw17_holds.l0 k a0 y113 (y113.length : Int) 0)) else (none)
theorem flagstonelaw17_holds.mono_l : ∀ k, (∀ y0 y1 y2 y3, LeO (flagstonelaw17_holds.l0 k y0 y1 y2 y3) (flagstonelaw17_holds.l0 (k + 1) y0 y1 y2 y3))
  | 0 => fun _ _ _ _ r h => by simp [flagstonelaw17_holds.l0] at h
  | k + 1 => by
    have ih0 := flagstonelaw17_holds.mono_l k
    · intro y0 y1 y2 y3
      unfold flagstonelaw17_holds.l0
      repeat' first
      | (with_reducible exact ih0 _ _ _ _)
      | (with_reducible exact LeO.refl _)
      | (with_reducible exact LeO.none _)
      | (with_reducible refine LeO.ite ?_ ?_)
      | (with_reducible refine LeO.bind ?_ (fun _ => ?_))
      | exact ih0 _ _ _ _
      | exact LeO.none _
      | refine LeO.ite ?_ ?_
      | refine LeO.bind ?_ (fun _ => ?_)
theorem flagstonelaw17_holds.mono : ∀ a0 k, LeO (flagstonelaw17_holds.f k a0) (flagstonelaw17_holds.f (k + 1) a0) := by
  intro a0 k
  have ih0 := flagstonelaw17_holds.mono_l k
  unfold flagstonelaw17_holds.f
  repeat' first
      | (with_reducible exact ih0 _ _ _ _)
      | (with_reducible exact LeO.refl _)
      | (with_reducible exact LeO.none _)
      | (with_reducible refine LeO.ite ?_ ?_)
      | (with_reducible refine LeO.bind ?_ (fun _ => ?_))
      | exact ih0 _ _ _ _
      | exact LeO.none _
      | refine LeO.ite ?_ ?_
      | refine LeO.bind ?_ (fun _ => ?_)
set_option maxHeartbeats 8000000 in
set_option maxRecDepth 100000 in
theorem flagstonelaw17_holds.calls (k : Nat) (a0 : Int) (r : List Bool) (w : World) (h : flagstonelaw17_holds.f k a0 = some r) :
    Calls Try.prog 51 #[.int .i64 a0] w fun e w' => ∃ v0_ : Value, e = .returned (v0_) ∧ Kd.R Kd.bool 4 w' w.heap.size (fun _ => True) v0_ r ∧ Below w.heap.size w w' := by
  have HB := Aside0.mk (Below.refl w.heap.size w)
  have H : (if 6 ≤ 281474976710656 then ((some (List.replicate 6 false : List Bool)).bind fun y113 => (flagstonelaw17_holds.l0 k a0 y113 (y113.length : Int) 0)) else (none)) = some r := h
  clear h
  by_cases c2 : 6 ≤ 281474976710656
  · rw [if_pos c2] at H
    have c2b0 := eq_true c2
    have c2b1 : decide (6 ≤ 281474976710656) = true := decide_eq_true c2
    clear c2
    obtain ⟨y113, hy113⟩ : ∃ y_ : List Bool, y_ = (List.replicate 6 false) := ⟨_, rfl⟩
    replace H : (flagstonelaw17_holds.l0 k a0 y113 (y113.length : Int) 0) = some r := by first | (rw [hy113]; with_reducible exact H) | (have H2_ := (Option.bind_some _ _).symm.trans H; rw [hy113]; with_reducible exact H2_) | (have H2_ := (Option.bind_some _ _).symm.trans H; with_reducible exact H2_) | with_reducible exact H | (rw [hy113]; exact H) | exact H
    have Ny113 := Aside0.mk hy113
    clear hy113
    have H' := Aside0.mk H
    clear H
    go_enter Try.func51, Try.ntmps51
    go_wp2_with (first | ((with_reducible refine gate_dst (N := 5) rfl ?_); refine Kd.R_make Kd.bool _ 4 rfl (N := 5) rfl 51 _ _ rfl 6 rfl rfl Try.underlying51 (.bool false) 1 info4 rfl (by decide) (by omega) false (ok := fun _ => True) (okp := fun _ => True) rfl (fun _ hk => hk) trivial (by omega) (by omega) (Below.refl _ _) (Nat.le_refl _) ?_; intro v114 w3 ho4 hb hg_ hnew_; clear hg_ hnew_; (first | rw [← Ny113.out] at ho4 | (simp only [Int.reduceToNat] at ho4; rw [← Ny113.out] at ho4)); have n0_ := Aside0.mk (Kd.R_lower ho4 (below_size (by repeat (first | (with_reducible first | exact HB.out | apply below_alloc | apply pw_below_drewN | apply below_drew1) | exact HB.out)))); have n1_ := Aside0.mk (below_step (by repeat (first | (with_reducible first | exact HB.out | apply below_alloc | apply pw_below_drewN | apply below_drew1) | exact HB.out)) hb); clear HB; have HO115 := n0_; have HB := n1_; clear n0_ n1_; clear hb ho4; obtain ⟨Ao5, co5, eo5⟩ := Kd.R_slice HO115.out; subst eo5))
    go_loopg [8] k (fun kq v8 w' => ∃ (x3_1 : List Bool) (x8_1 : Int), v8 = .int .i64 x8_1 ∧ Aside0 (flagstonelaw17_holds.l0 kq a0 x3_1 (y113.length : Int) x8_1 = some r) ∧ Aside0 (kq ≤ k) ∧ Aside0 (Kd.R Kd.bool 4 w' w.heap.size (fun _ => True) (.slice Ao5 y113.length co5) x3_1) ∧ Aside0 (Below w.heap.size w w'))
    case atStart => exact ⟨(y113), (0), (by first | rfl | (simp; done) | (simp [*]; done)), H', ⟨Nat.le_refl _⟩, ⟨by (with_reducible repeat (first | apply Kd.R_alloc | apply Kd.R_drewN | apply Kd.R_drew)); exact HO115.out⟩, ⟨by repeat (first | (with_reducible first | exact HB.out | apply below_alloc | apply pw_below_drewN | apply below_drew1) | exact HB.out)⟩⟩
    case round =>
      clear H'
      try clear c2
      try clear c2b0
      try clear c2b1
      try clear p2
      try clear c5
      obtain ⟨x3_1, x8_1, rfl, HA, HK1, HO_3, HB⟩ := hrel
      have hl3_1 := (Kd.R_reads' HO_3.out).1
      rw [hl3_1] at HO_3
      (try simp only [hl3_1])
      cases gk with
      | zero => exact absurd HA.out (by simp [flagstonelaw17_holds.l0])
      | succ k1 =>
        have H := HA.out
        clear HA
        simp only [flagstonelaw17_holds.l0] at H
        by_cases c6 : x8_1 < (y113.length : Int)
        · rw [if_pos c6] at H
          have c6b0 : decide (x8_1 < (y113.length : Int)) = true := decide_eq_true c6
          clear c6
          obtain ⟨ji7, hji7⟩ : ∃ j_ : Int, (IntKind.u64.wrap (x8_1)) = j_ := ⟨_, rfl⟩
          replace H : (if 0 ≤ (ji7) then (if 0 ≤ x8_1 then (if x8_1 < (x3_1.length : Int) then (flagstonelaw17_holds.l0 k1 a0 (x3_1.set (x8_1 : Int).toNat ((Go.bits .and .i64 (shr .i64 a0 (ji7)) 1) == 1)) (y113.length : Int) (wrap64 (x8_1 + 1))) else (none)) else (none)) else (none)) = some r := by first | (rw [hji7] at H; exact H) | (simp only [hji7] at H ⊢; exact H)
          by_cases c8 : 0 ≤ (ji7)
          · rw [if_pos c8] at H
            have c8b0 := eq_true c8
            have c8b1 : decide (0 ≤ (ji7)) = true := decide_eq_true c8
            clear c8
            obtain ⟨ji9, hji9⟩ : ∃ j_ : Int, (shr .i64 a0 (ji7)) = j_ := ⟨_, rfl⟩
            replace H : (if 0 ≤ x8_1 then (if x8_1 < (x3_1.length : Int) then (flagstonelaw17_holds.l0 k1 a0 (x3_1.set (x8_1 : Int).toNat ((Go.bits .and .i64 (ji9) 1) == 1)) (y113.length : Int) (wrap64 (x8_1 + 1))) else (none)) else (none)) = some r := by first | (rw [hji9] at H; exact H) | (simp only [hji9] at H ⊢; exact H)
            have hji9_ : (a0 / 2 ^ min (ji7).toNat 64) = ji9 := hji9
            have hji9z : (ji7) ≤ 64 → (a0 / 2 ^ (ji7).toNat) = ji9 := shr_small hji9
            by_cases c10 : 0 ≤ x8_1
            · rw [if_pos c10] at H
              have c10b0 : decide (0 ≤ x8_1) = true := decide_eq_true c10
              clear c10
              by_cases c11 : x8_1 < (x3_1.length : Int)
              · rw [if_pos c11] at H
                have c11b0 : decide (x8_1 < (x3_1.length : Int)) = true := decide_eq_true c11
                clear c11
                obtain ⟨y116, hy116⟩ : ∃ y_ : List Bool, y_ = (x3_1.set (x8_1 : Int).toNat ((Go.bits .and .i64 (ji9) 1) == 1)) := ⟨_, rfl⟩
                replace H : (flagstonelaw17_holds.l0 k1 a0 y116 (y113.length : Int) (wrap64 (x8_1 + 1))) = some r := by first | (rw [hy116]; with_reducible exact H) | (have H2_ := (Option.bind_some _ _).symm.trans H; rw [hy116]; with_reducible exact H2_) | (have H2_ := (Option.bind_some _ _).symm.trans H; with_reducible exact H2_) | with_reducible exact H | (rw [hy116]; exact H) | exact H
                have Ny116 := Aside0.mk hy116
                clear hy116
                have H' := Aside0.mk H
                clear H
                have p12 : 0 ≤ (x8_1 : Int) := of_decide_eq_true (by first | (with_reducible assumption) | assumption)
                have q12 : (x8_1 : Int) < ((x3_1.length : Int) : Int) := of_decide_eq_true (by first | (with_reducible assumption) | assumption)
                obtain ⟨go12, co12, eo12, gb12, gl12, cl12, HG12⟩ := Kd.R_form HO_3.out (by omega)
                (first | cases eo12 | (injection eo12 with ea_ en_ ec_; (first | subst ea_ | (injection ea_ with ea_; subst ea_)); subst ec_; clear en_))
                have GB12 := Aside0.mk gb12
                have GG12 := Aside0.mk HG12
                clear gb12 gl12 HG12
                obtain ⟨hx12_0, hf12_0⟩ := Kd.R_celln false HO_3.out (x8_1 : Int) p12 q12
                replace p12 := eq_true p12
                replace q12 := eq_true q12
                have HP13 := Kd.R_putg HO_3.out (x8_1 : Int) ((Go.bits .and .i64 (ji9) 1) == 1)
                go_wp2_with (first | ((with_reducible refine gate_store (t := 4) (p := 19) rfl ?_); refine store_event (t := 4) (p := 19) (v := ?vo_w14) (w1 := (wr.setCell ⟨go12, (x8_1 : Int).toNat, none⟩ (.bool ((Go.bits .and .i64 (ji9) 1) == 1)))) ?hg ?ho ?hn ?hr ?_; (case ho => rfl); (case hg => rfl); (case hn => rfl); (case hr => first | (go_simp; done) | (go_simp; rfl)); intro w14 hw; have hg : wr.grownBy w14 (some go12) := (by rw [hw]; exact HP13.2); have hp_ : Kd.R Kd.bool 4 w14 w.heap.size (fun _ => True) (.slice (some ⟨go12, 0, none⟩) x3_1.length co5) y116 := (by rw [hw, Ny116.out]; exact HP13.1); clear HP13; have n0_ := Aside0.mk (hp_); have n1_ := Aside0.mk ((by rw [hw]; exact below_set (HB.out) GB12.out : Below w.heap.size w w14)); clear HO_3; clear HB; have HO_3 := n0_; have HB := n1_; clear n0_ n1_; clear hg hw hp_))
                (try simp only [← hl3_1])
                go_roundg k1
                case measure => have := HK1.out; omega
                case rel => exact ⟨(y116), (wrap64 (x8_1 + 1)), (by first | rfl | (simp; done) | (simp [*]; done)), H', ⟨by have := HK1.out; omega⟩, ⟨by (try simp only [hl3_1]); (with_reducible repeat (first | apply Kd.R_alloc | apply Kd.R_drewN | apply Kd.R_drew)); exact HO_3.out⟩, ⟨by repeat (first | (with_reducible first | exact HB.out | apply below_alloc | apply pw_below_drewN | apply below_drew1) | exact HB.out)⟩⟩
              · rw [if_neg c11] at H
                exact absurd H (by simp)
            · rw [if_neg c10] at H
              exact absurd H (by simp)
          · rw [if_neg c8] at H
            exact absurd H (by simp)
        · rw [if_neg c6] at H
          have c6b0 : decide (x8_1 < (y113.length : Int)) = false := decide_eq_false c6
          clear c6
          rw [hl3_1] at c6b0
          obtain rfl := Option.some.inj H
          go_wp2
          go_ret
          exact ⟨_, by first | rfl | (simp [errW_none, errW_some] <;> rfl) | (simp [*, errW_none, errW_some] <;> rfl), by (with_reducible repeat (first | apply Kd.R_alloc | apply Kd.R_drewN | apply Kd.R_drew)); exact HO_3.out, by repeat (first | (with_reducible first | exact HB.out | apply below_alloc | apply pw_below_drewN | apply below_drew1) | exact HB.out)⟩
  · rw [if_neg c2] at H
    exact absurd H (by simp)

end Go.Proofs.Ytihikenmknphkaa.Q

namespace Go.Proofs.Ytihikenmknphkaa.Q
open Go Go.RowKit Go.Maps Go.Proofs.YtihikenmknphkaaW.PrintWords Go.Proofs.YtihikenmknphkaaW.PrintLast Go.Proofs.YtihikenmknphkaaW.PrintMore Go.Proofs.Ytihikenmknphkaa.M
set_option linter.unusedVariables false
set_option linter.unusedSimpArgs false

/-- a pair of the same two ids -/
def k32 : Kd Int := Kd.iso (Kd.pair (Kd.int .i64) (Kd.int .i64)) (fun x : Int => (x, x))
theorem info32 : (Try.prog.info? 32).map (fun i => (i.zero, i.size, i.bytes)) = some (some (.agg #[(.int .i64 0), (.int .i64 0)]), 2, 16) := by kernel_rfl
theorem k32_open {w : World} {x : Int} {cs : List Value} (h : k32.K w x cs) : cs = [.int .i64 x, .int .i64 x] := by
  obtain ⟨_, _, rfl, rfl, rfl⟩ := h
  exact rfl
theorem k32_mkM (w : World) (base : Nat) (ok : Nat → Prop) (x : Int) : k32.M w base ok x [.int .i64 x, .int .i64 x] := ⟨[.int .i64 x], [.int .i64 x], rfl, rfl, rfl⟩
theorem at_T32 {w : World} {A : Option Addr} {n : Nat} {xs : List Int} (h : Kd.C k32 w A n xs) (i : Int) (h0 : 0 ≤ i) (h1 : i < n) : ∃ ad , A = some ad ∧ w.cell? (ad.add (i.toNat * 2)) = some (.int .i64 (rd xs i)) ∧ w.cell? ⟨(ad.add (i.toNat * 2)).block, (ad.add (i.toNat * 2)).off + 1, none⟩ = some (.int .i64 (rd xs i)) := by
  obtain ⟨ad, c, e, _, hK, hc0⟩ := Kd.C_get h 0 i h0 h1
  have hc : ∀ j u, c[j]? = some u → w.cell? (ad.add (i.toNat * 2 + j)) = some u := hc0
  obtain rfl := k32_open hK
  exact ⟨ad, e, hc 0 _ rfl, by rw [← add_field _ _ 1 (by omega)]; exact hc 1 _ rfl⟩

/-- what a call leaves: nothing elder than B is written; rows of the types L are as they were -/
structure Kq (L : Nat → Prop) (B : Nat) (w w' : World) : Prop where
  b : Below B w w'
  box : ∀ (k : Nat) (cs : Array Value) (t : TypeId) (fr : Nat × Nat), w.heap[k]? = some (Obj.cells cs t fr) → L t → w'.heap[k]? = some (Obj.cells cs t fr)
def L3 (t : Nat) : Prop := t ≠ 58 ∧ t ≠ 67 ∧ t ≠ 39
def L71 (t : Nat) : Prop := t = 71
theorem Kq.refl (L : Nat → Prop) (B : Nat) (w : World) : Kq L B w w := ⟨Below.refl _ _, fun _ _ _ _ h _ => h⟩
theorem Kq.trans {L : Nat → Prop} {B : Nat} {w w1 w2 : World} (h : Kq L B w w1) (k : Kq L B w1 w2) : Kq L B w w2 := ⟨h.b.trans k.b, fun j cs t fr hj hL => k.box j cs t fr (h.box j cs t fr hj hL) hL⟩
theorem Kq.mono {L L' : Nat → Prop} {B : Nat} {w w1 : World} (h : Kq L B w w1) (hL : ∀ t, L' t → L t) : Kq L' B w w1 := ⟨h.b, fun j cs t fr hj ht => h.box j cs t fr hj (hL t ht)⟩
theorem Kq.of_below {L : Nat → Prop} {B : Nat} {w w1 : World} (h : Below w.heap.size w w1) (hB : B ≤ w.heap.size) : Kq L B w w1 := ⟨h.mono hB, fun j cs t fr hj _ => (h.block j (blk_lt hj)).trans hj⟩
theorem Kq.drew {L : Nat → Prop} {B : Nat} {w : World} (hB : B ≤ w.heap.size) : Kq L B w w.drew := Kq.of_below (below_drew1 (Below.refl _ _)) hB
theorem Kq.alloc {L : Nat → Prop} {B : Nat} {w : World} (hB : B ≤ w.heap.size) (o : Obj) : Kq L B w (w.alloc o) := Kq.of_below ((Below.refl _ _).alloc (Nat.le_refl _) _) hB
theorem Kq.of_fr {L : Nat → Prop} {B : Nat} {w w1 : World} (h : Fr w w1 (fun _ => False)) (hB : B ≤ w.heap.size) : Kq L B w w1 := Kq.of_below (h.below (Nat.le_refl _) (fun _ e => e.elim)) hB
theorem Kq.size {L : Nat → Prop} {B : Nat} {w w1 : World} (h : Kq L B w w1) : w.heap.size ≤ w1.heap.size := h.b.size
theorem IsS71.kq {B : Nat} {w0 w w1 : World} {g : Nat} {l : List Int} {x : Int} (h : IsS71 w0 w g l x) (hk : Kq L71 B w w1) : IsS71 w0 w1 g l x := by
  obtain ⟨A0, c0, hb, hg, hr⟩ := h
  exact ⟨A0, c0, hk.box _ _ _ _ hb rfl, hg, hr⟩
/-- the choices turn, nothing else -/
theorem Kq.codes {L : Nat → Prop} {B : Nat} {w0 w w1 : World} {g : Nat} {l : List Int} {x : Int} (h : IsS71 w0 w g l x) (hk : KeepBut w w1 g none) (hb : Below B w w1) (hL : ∀ t, L t → t ≠ 71) : Kq L B w w1 := by
  obtain ⟨A0, c0, hg, _, _⟩ := h
  refine ⟨hb, fun j cs t fr hj ht => (hk.2 j (blk_lt hj) (fun e => ?_) (by simp)).trans hj⟩
  subst e
  rw [hg] at hj
  injection hj with hj
  injection hj with _ e
  exact hL t ht e.symm

/-- two stores with their nodes -/
def Two (B : Nat) (w : World) (S S' : Nat) (ns ns' : List N39) : Prop :=
  ∃ m v m' v', StAt 58 w S m v ns false ∧ StAt 67 w S' m' v' ns' false ∧ (∀ k, ownS S m v k → ¬ ownS S' m' v' k) ∧ (∀ k, ownS S m v k → B ≤ k) ∧ (∀ k, ownS S' m' v' k → B ≤ k)
theorem Two.size {B : Nat} {w : World} {S S' : Nat} {ns ns' : List N39} (h : Two B w S S' ns ns') : B ≤ w.heap.size := by
  obtain ⟨m, v, m', v', h1, h2, h3, h4, h5⟩ := h
  have := h4 S (.inl rfl)
  have := h1.lt (k := S) (.inl rfl)
  omega
theorem own_row {T : Nat} {w : World} {S m : Nat} {v : Value} {ns : List N39} {full : Bool} (h : StAt T w S m v ns full) {k : Nat} (hk : ownS S m v k) {cs : Array Value} {t : TypeId} {fr : Nat × Nat} (hb : w.heap[k]? = some (.cells cs t fr)) : t = T ∨ t = 39 := by
  rcases hk with e | e | e
  · subst e
    have := h.blk.symm.trans hb
    injection this with this
    injection this with _ e
    exact .inl e.symm
  · subst e; exact (MapIs.no_cells h.ids hb).elim
  · obtain ⟨inner, hown⟩ := Kd.R_own h.row
    rcases hown.2 with ⟨rfl, _⟩ | ⟨g, cap, cur, rfl, _, hb2, _⟩
    · simp [Value.ownBlock] at e
    · simp [Value.ownBlock] at e
      subst e
      rw [hb2] at hb
      injection hb with hb
      injection hb with _ e
      exact .inr e.symm
theorem Kq.of_own {T : Nat} {B : Nat} {w w1 : World} {S m : Nat} {v : Value} {ns : List N39} {full : Bool} (h : StAt T w S m v ns full) (hT : T = 58 ∨ T = 67) (hf : Fr w w1 (ownS S m v)) (hB : ∀ k, ownS S m v k → B ≤ k) (hs : B ≤ w.heap.size) : Kq L3 B w w1 :=
  ⟨hf.below hs hB, fun j cs t fr hj ht => (hf.blk j (blk_lt hj) (fun ho => by
    obtain ⟨a, b, c⟩ := ht
    rcases own_row h ho hj with e | e
    · rcases hT with e2 | e2
      · exact a (e.trans e2)
      · exact b (e.trans e2)
    · exact c e)).trans hj⟩
theorem Two.kept {B : Nat} {w w1 : World} {S S' : Nat} {ns ns' : List N39} (h : Two B w S S' ns ns') {F : Nat → Prop} (hf : Fr w w1 F) (hF : ∀ k, F k → w.heap.size ≤ k ∨ ∃ (cs : Array Value) (t : TypeId) (fr : Nat × Nat), w.heap[k]? = some (Obj.cells cs t fr) ∧ L3 t) : Two B w1 S S' ns ns' := by
  obtain ⟨m, v, m', v', h1, h2, h3, h4, h5⟩ := h
  refine ⟨m, v, m', v', h1.kept hf (fun k hk hn => ?_), h2.kept hf (fun k hk hn => ?_), h3, h4, h5⟩
  · rcases hF k hn with e | ⟨cs, t, fr, e, a, b, c⟩
    · have := h1.lt hk; omega
    · rcases own_row h1 hk e with e | e
      · exact a e
      · exact c e
  · rcases hF k hn with e | ⟨cs, t, fr, e, a, b, c⟩
    · have := h2.lt hk; omega
    · rcases own_row h2 hk e with e | e
      · exact b e
      · exact c e
theorem Two.below {B : Nat} {w w1 : World} {S S' : Nat} {ns ns' : List N39} (h : Two B w S S' ns ns') (hb : Below w.heap.size w w1) : Two B w1 S S' ns ns' := h.kept (Fr.of_below hb (fun _ => False)) (fun _ e => e.elim)
theorem Two.fr {B : Nat} {w w1 : World} {S S' : Nat} {ns ns' : List N39} (h : Two B w S S' ns ns') (hb : Fr w w1 (fun _ => False)) : Two B w1 S S' ns ns' := h.kept hb (fun _ e => e.elim)
/-- an operation of the program's store -/
theorem Two.callP {B : Nat} {w : World} {S S' : Nat} {ns ns' ns1 : List N39} {r : Int} (h : Two B w S S' ns ns') {f : FuncId} {args : Array Value} (hc : ∀ m v, StAt 58 w S m v ns false → Calls Try.prog f args w (NodeEnd 58 w S m v ns1 false r)) :
    Calls Try.prog f args w fun e w1 => e = .returned (.int .i64 r) ∧ Two B w1 S S' ns1 ns' ∧ Kq L3 B w w1 := by
  have hs := h.size
  obtain ⟨m, v, m', v', h1, h2, h3, h4, h5⟩ := h
  refine (hc m v h1).mono ?_
  rintro e w1 ⟨rfl, v1, k1, k2, k3⟩
  refine ⟨rfl, ⟨m, v1, m', v', k1, h2.kept k2 (fun k hk hn => h3 k hn hk), fun k hk hk' => ?_, fun k hk => ?_, h5⟩, Kq.of_own h1 (.inl rfl) k2 h4 hs⟩
  · rcases own_step k3 hk with e | e
    · exact h3 k e hk'
    · have := h2.lt hk'; omega
  · rcases own_step k3 hk with e | e
    · exact h4 k e
    · omega
theorem Two.callR {B : Nat} {w : World} {S S' : Nat} {ns ns' ns1 : List N39} {r : Int} (h : Two B w S S' ns ns') {f : FuncId} {args : Array Value} (hc : ∀ m v, StAt 67 w S' m v ns' false → Calls Try.prog f args w (NodeEnd 67 w S' m v ns1 false r)) :
    Calls Try.prog f args w fun e w1 => e = .returned (.int .i64 r) ∧ Two B w1 S S' ns ns1 ∧ Kq L3 B w w1 := by
  have hs := h.size
  obtain ⟨m, v, m', v', h1, h2, h3, h4, h5⟩ := h
  refine (hc m' v' h2).mono ?_
  rintro e w1 ⟨rfl, v1, k1, k2, k3⟩
  refine ⟨rfl, ⟨m, v, m', v1, h1.kept k2 (fun k hk hn => h3 k hk hn), k1, fun k hk hk' => ?_, h4, fun k hk => ?_⟩, Kq.of_own h2 (.inr rfl) k2 h5 hs⟩
  · rcases own_step k3 hk' with e | e
    · exact h3 k hk e
    · have := h1.lt hk; omega
  · rcases own_step k3 hk with e | e
    · exact h5 k e
    · omega

/-- the maker's box -/
def boxM (S S' : Nat) (A : Option Addr) (n c : Nat) : Obj := .cells #[.pointer (some ⟨S, 0, none⟩), .pointer (some ⟨S', 0, none⟩), .slice A n c, .bool true] 30 (0, 0)
structure MkAt (B : Nat) (w : World) (G S S' : Nat) (A : Option Addr) (c : Nat) (ns ns' : List N39) (all : List Int) : Prop where
  blk : w.heap[G]? = some (boxM S S' A all.length c)
  two : Two B w S S' ns ns'
  row : Kd.R k32 32 w B (fun _ => True) (.slice A all.length c) all
  g : B ≤ G
theorem MkAt.row_type {w : World} {B : Nat} {v : Value} {all : List Int} (h : Kd.R k32 32 w B (fun _ => True) v all) {k : Nat} (hk : v.ownBlock = some k) : ∃ (cs : Array Value) (fr : Nat × Nat), w.heap[k]? = some (Obj.cells cs 32 fr) := by
  obtain ⟨inner, hown⟩ := Kd.R_own h
  rcases hown.2 with ⟨rfl, _⟩ | ⟨g, cap, cur, rfl, _, hb2, _⟩
  · simp [Value.ownBlock] at hk
  · simp [Value.ownBlock] at hk
    subst hk
    exact ⟨_, _, hb2⟩
theorem Kq.row {L : Nat → Prop} {w w1 : World} {B : Nat} {v : Value} {all : List Int} (hk : Kq L B w w1) (hL : L 32) (h : Kd.R k32 32 w B (fun _ => True) v all) : Kd.R k32 32 w1 B (fun _ => True) v all := by
  have h1 := Kd.R_tight rfl h
  refine Kd.R_mono (Kd.R_step h1 (fun k ho hlt => ?_)) (fun _ _ => trivial)
  obtain ⟨cs, fr, e⟩ := MkAt.row_type h ho.symm
  rw [hk.box _ _ _ _ e hL, e]
theorem MkAt.step {B : Nat} {w w1 : World} {G S S' : Nat} {A : Option Addr} {c : Nat} {ns ns' n1 n1' : List N39} {all : List Int} (h : MkAt B w G S S' A c ns ns' all) (hk : Kq L3 B w w1) (h2 : Two B w1 S S' n1 n1') : MkAt B w1 G S S' A c n1 n1' all :=
  ⟨hk.box _ _ _ _ h.blk (by unfold L3; omega), h2, hk.row (by unfold L3; omega) h.row, h.g⟩
theorem MkAt.fr {B : Nat} {w w1 : World} {G S S' : Nat} {A : Option Addr} {c : Nat} {ns ns' : List N39} {all : List Int} (h : MkAt B w G S S' A c ns ns' all) (hf : Fr w w1 (fun _ => False)) : MkAt B w1 G S S' A c ns ns' all := h.step (Kq.of_fr hf h.two.size) (h.two.fr hf)
theorem MkAt.below {B : Nat} {w w1 : World} {G S S' : Nat} {A : Option Addr} {c : Nat} {ns ns' : List N39} {all : List Int} (h : MkAt B w G S S' A c ns ns' all) (hb : Below w.heap.size w w1) : MkAt B w1 G S S' A c ns ns' all := h.fr (Fr.of_below hb _)
theorem MkAt.drew {B : Nat} {w : World} {G S S' : Nat} {A : Option Addr} {c : Nat} {ns ns' : List N39} {all : List Int} (h : MkAt B w G S S' A c ns ns' all) : MkAt B w.drew G S S' A c ns ns' all := h.below (below_drew1 (Below.refl _ _))
theorem MkAt.codes {B : Nat} {w0 w w1 : World} {g : Nat} {l : List Int} {x : Int} {G S S' : Nat} {A : Option Addr} {c : Nat} {ns ns' : List N39} {all : List Int} (h : MkAt B w G S S' A c ns ns' all) (hs : IsS71 w0 w g l x) (hk : KeepBut w w1 g none) (hb : Below B w w1) : MkAt B w1 G S S' A c ns ns' all := by
  obtain ⟨A0, c0, hg, _, _⟩ := id hs
  have hbox : ∀ (k : Nat) (cs : Array Value) (t : TypeId) (fr : Nat × Nat), w.heap[k]? = some (Obj.cells cs t fr) → t ≠ 71 → w1.heap[k]? = some (Obj.cells cs t fr) := fun j cs t fr hj ht => (hk.2 j (blk_lt hj) (fun e => by subst e; rw [hg] at hj; injection hj with hj; injection hj with _ e; exact ht e.symm) (by simp)).trans hj
  have hfr : Fr w w1 (fun k => k = g) := ⟨hb.mono (Nat.zero_le _), fun k hk1 hn => hk.2 k hk1 hn (by simp)⟩
  have hr := h.row
  refine ⟨hbox _ _ _ _ h.blk (by decide), h.two.kept hfr (fun k e => .inr ⟨_, _, _, e ▸ hg, by unfold L3; omega⟩), ?_, h.g⟩
  have h1 := Kd.R_tight rfl hr
  refine Kd.R_mono (Kd.R_step h1 (fun k ho hlt => ?_)) (fun _ _ => trivial)
  obtain ⟨cs, fr, e⟩ := MkAt.row_type hr ho.symm
  rw [hbox _ _ _ _ e (by decide), e]
theorem MkAt.c0 {B : Nat} {w : World} {G S S' : Nat} {A : Option Addr} {c : Nat} {ns ns' : List N39} {all : List Int} (h : MkAt B w G S S' A c ns ns' all) : w.cell? ⟨G, 0, none⟩ = some (.pointer (some ⟨S, 0, none⟩)) := (blk_cell h.blk 0).trans rfl
theorem MkAt.c1 {B : Nat} {w : World} {G S S' : Nat} {A : Option Addr} {c : Nat} {ns ns' : List N39} {all : List Int} (h : MkAt B w G S S' A c ns ns' all) : w.cell? ⟨G, 1, none⟩ = some (.pointer (some ⟨S', 0, none⟩)) := (blk_cell h.blk 1).trans rfl
theorem MkAt.c2 {B : Nat} {w : World} {G S S' : Nat} {A : Option Addr} {c : Nat} {ns ns' : List N39} {all : List Int} (h : MkAt B w G S S' A c ns ns' all) : w.cell? ⟨G, 2, none⟩ = some (.slice A all.length c) := (blk_cell h.blk 2).trans rfl
theorem MkAt.c3 {B : Nat} {w : World} {G S S' : Nat} {A : Option Addr} {c : Nat} {ns ns' : List N39} {all : List Int} (h : MkAt B w G S S' A c ns ns' all) : w.cell? ⟨G, 3, none⟩ = some (.bool true) := (blk_cell h.blk 3).trans rfl
end Go.Proofs.Ytihikenmknphkaa.Q

namespace Go.Proofs.Ytihikenmknphkaa.Q
open Go Go.RowKit Go.Maps Go.Proofs.YtihikenmknphkaaW.PrintWords Go.Proofs.YtihikenmknphkaaW.PrintLast Go.Proofs.YtihikenmknphkaaW.PrintMore Go.Proofs.Ytihikenmknphkaa.M
set_option linter.unusedVariables false
set_option linter.unusedSimpArgs false

theorem holds_ev (n : Int) : ∃ k r, flagstonelaw17_holds.f k n = some r ∧ r.length = 6 := by
  have h : ∃ r, flagstonelaw17_holds.f 8 n = some r ∧ r.length = 6 := by
    unfold flagstonelaw17_holds.f
    rw [if_pos (by omega)]
    simp only [Option.bind_some]
    have step : ∀ (k : Nat) (x : List Bool) (j : Nat), x.length = 6 → j < 6 → flagstonelaw17_holds.l0 (k + 1) n x 6 (j : Int) = flagstonelaw17_holds.l0 k n (x.set ((j : Int)).toNat ((Go.bits .and .i64 (shr .i64 n (IntKind.u64.wrap (j : Int))) 1) == 1)) 6 (((j + 1 : Nat)) : Int) := by
      intro k x j hx hj
      have e1 : IntKind.u64.wrap (j : Int) = (j : Int) := by
        have : j = 0 ∨ j = 1 ∨ j = 2 ∨ j = 3 ∨ j = 4 ∨ j = 5 := by omega
        rcases this with rfl | rfl | rfl | rfl | rfl | rfl <;> rfl
      have e2 : wrap64 ((j : Int) + 1) = ((j + 1 : Nat) : Int) := by unfold wrap64; omega
      conv => lhs; unfold flagstonelaw17_holds.l0
      rw [if_pos (by omega), if_pos (by rw [e1]; omega), if_pos (by omega), if_pos (by rw [hx]; omega), e2]
    have last : ∀ (k : Nat) (x : List Bool), x.length = 6 → flagstonelaw17_holds.l0 (k + 1) n x 6 ((6 : Nat) : Int) = some x := by
      intro k x hx
      unfold flagstonelaw17_holds.l0
      rw [if_neg (by omega)]
    have h0 : (List.replicate 6 false).length = 6 := by simp
    have e0 : (((List.replicate 6 false).length : Nat) : Int) = 6 := by simp
    rw [e0, show (0 : Int) = ((0 : Nat) : Int) from rfl, step 7 _ 0 h0 (by omega), step 6 _ 1 (by simp) (by omega), step 5 _ 2 (by simp) (by omega), step 4 _ 3 (by simp) (by omega), step 3 _ 4 (by simp) (by omega), step 2 _ 5 (by simp) (by omega), last _ _ (by simp)]
    exact ⟨_, rfl, by simp⟩
  obtain ⟨r, h1, h2⟩ := h
  exact ⟨8, r, h1, h2⟩
theorem Two.runP {B : Nat} {w : World} {S S' : Nat} {ns ns' : List N39} (h : Two B w S S' ns ns') (hw : WF ns) (id : Int) {A : Option Addr} (c : Nat) {hs : List Bool} (hC : Kd.C Kd.bool w A hs.length hs) (hl : hs.length ≤ 1000000) :
    Calls Try.prog 19 #[.pointer (some ⟨S, 0, none⟩), .int .i64 id, .slice A hs.length c] w fun e w' => e = .returned (.int .i64 (runG ns id hs)) ∧ Fr w w' (fun _ => False) := by
  obtain ⟨m, v, m', v', h1, h2, _⟩ := h
  exact runP_calls ns id S m v false A c hs w hw h1 hC hl
theorem Two.runR {B : Nat} {w : World} {S S' : Nat} {ns ns' : List N39} (h : Two B w S S' ns ns') (hw : WF ns') (id : Int) {A : Option Addr} (c : Nat) {hs : List Bool} (hC : Kd.C Kd.bool w A hs.length hs) (hl : hs.length ≤ 1000000) :
    Calls Try.prog 52 #[.pointer (some ⟨S', 0, none⟩), .int .i64 id, .slice A hs.length c] w fun e w' => e = .returned (.int .i64 (runG ns' id hs)) ∧ Fr w w' (fun _ => False) := by
  obtain ⟨m, v, m', v', h1, h2, _⟩ := h
  exact runR_calls ns' id S' m' v' false A c hs w hw h2 hC hl

set_option maxRecDepth 100000 in
set_option maxHeartbeats 4000000 in
theorem add_calls (B : Nat) (w : World) (G S S' : Nat) (A : Option Addr) (c : Nat) (ns : List N39) (all : List Int) (r : Int) (hw : WF ns) (hM : MkAt B w G S S' A c ns ns all) (hl : all.length ≤ 1000) :
    Calls Try.prog 35 #[.pointer (some ⟨G, 0, none⟩), .int .i64 r, .int .i64 r] w fun e w' => e = .returned (.tuple #[]) ∧ (∃ A' c', MkAt B w' G S S' A' c' ns ns (if r = -1002 then all else all ++ [r])) ∧ Kq L71 B w w' := by
  have HM := Aside0.mk hM
  have HW := Aside0.mk hw
  have q0 := hM.c0
  have q1 := hM.c1
  have q2 := hM.c2
  have q3 := hM.c3
  clear hM hw
  by_cases hr : r = -1002
  · have d1 : (r == -1002) = true := by simpa using hr
    have HE : Aside0 ((if r = -1002 then all else all ++ [r]) = all) := ⟨if_pos hr⟩
    rw [HE.out]
    clear hr
    go_enter Try.func35, Try.ntmps35
    go_wp2
    refine bodyPost_ret (results_none rfl _ _ _) rfl ?_
    exact ⟨rfl, ⟨A, c, HM.out⟩, Kq.refl _ _ _⟩
  · have d1 : (r == -1002) = false := by simpa using hr
    have HE : Aside0 ((if r = -1002 then all else all ++ [r]) = all ++ [r]) := ⟨if_neg hr⟩
    rw [HE.out]
    clear hr
    go_enter Try.func35, Try.ntmps35
    go_wp2
    go_loopw [6, 7] (fun v6 v7 wr => ∃ i : Int, v6 = .int .i64 i ∧ Aside0 (0 ≤ i ∧ i ≤ 64) ∧ Aside0 (Fr w wr (fun _ => False))) (fun v6 v7 _ => 64 - (intOf v6).toNat)
    case atStart => exact ⟨0, rfl, ⟨by omega⟩, ⟨Fr.refl _ _⟩⟩
    case round =>
      obtain ⟨i, rfl, HI, HF⟩ := hrel
      have HMr := Aside0.mk (HM.out.fr HF.out)
      by_cases hlt : i < 64
      · have p1 : 0 ≤ i := HI.out.1
        obtain ⟨k, hs, hk, hsl⟩ := holds_ev i
        have HK := Aside0.mk hk
        have HSL := Aside0.mk hsl
        have dd : (runG ns r hs != runG ns r hs) = false := by simp
        clear hk hsl
        obtain ⟨wo, rfl⟩ : ∃ wo : World, wo = wr := ⟨_, rfl⟩
        go_upto_region 7 with (go_at_call 51; refine (flagstonelaw17_holds.calls k i hs wo HK.out).mono ?_; rintro e w1 ⟨vh, rfl, hrow, hb1⟩; have HROW := Aside0.mk hrow; have HB1 := Aside0.mk hb1; clear hrow hb1)
        obtain ⟨Ah, ch, eh⟩ := Kd.R_slice HROW.out
        subst eh
        have HC1 := Aside0.mk (Kd.R_reads' HROW.out).2.2
        have HM1 := Aside0.mk (HMr.out.below HB1.out).drew
        have HF1 : Aside0 (Fr w w1.drew (fun _ => False)) := ⟨(HF.out.then_below HB1.out).drew⟩
        have HC2 : Aside0 (Kd.C Kd.bool w1.drew Ah hs.length hs) := ⟨HC1.out⟩
        clear HB1 HROW HC1
        generalize runG ns r hs = res at dd
        refine start_ (n := 15) (S := fun w' => w'.cell? ⟨G, 0, none⟩ = some (.pointer (some ⟨S, 0, none⟩)) ∧ w'.cell? ⟨G, 1, none⟩ = some (.pointer (some ⟨S', 0, none⟩))) (ds := []) #[false, false, false, false, false, false, false, false, false, false, false, false, false, false, false] (by kernel_rfl) rfl rfl ⟨HM1.out.c0, HM1.out.c1⟩ (fun hHeld => ?_)
        refine pure_ (i := 0) (N := some 35) (v := ?_) (a' := ?_) #[true, false, false, false, false, false, false, false, false, false, false, false, false, false, false] rfl rfl (by kernel_rfl) (fun _ _ _ h => h) (Or.inl ⟨by rfl, ?_⟩) ?_ ?_
        rotate_left
        · intro w'
          go_simp
          with_reducible rfl
        rotate_left
        · simp only [Act.put, List.setIfInBounds_toArray, List.set_cons_zero, List.set_cons_succ, i64_w, i32_w]
          rfl
        refine pure_ (i := 1) (N := some 36) (v := ?_) (a' := ?_) #[true, true, false, false, false, false, false, false, false, false, false, false, false, false, false] rfl rfl (by kernel_rfl) (fun _ _ _ h => h) (Or.inl ⟨by rfl, ?_⟩) ?_ ?_
        rotate_left
        · intro w'
          go_simp
          with_reducible rfl
        rotate_left
        · simp only [Act.put, List.setIfInBounds_toArray, List.set_cons_zero, List.set_cons_succ, i64_w, i32_w]
          rfl
        refine pure_ (i := 2) (N := some 37) (v := ?_) (a' := ?_) #[true, true, true, false, false, false, false, false, false, false, false, false, false, false, false] rfl rfl (by kernel_rfl) (fun _ _ _ h => h) (Or.inl ⟨by rfl, ?_⟩) ?_ ?_
        rotate_left
        · intro w'
          go_simp
          with_reducible rfl
        rotate_left
        · simp only [Act.put, List.setIfInBounds_toArray, List.set_cons_zero, List.set_cons_succ, i64_w, i32_w]
          rfl
        refine take_ (i := 3) (N := some 38) (v := ?_) (a' := ?_) #[true, true, true, true, false, false, false, false, false, false, false, false, false, false, false] rfl rfl (by kernel_rfl) (fun _ _ _ h => h) (Or.inl ⟨by rfl, ?_⟩) hHeld ?_ ?_
        rotate_left
        · rintro w' ⟨s0, s1⟩
          go_simp
          with_reducible rfl
        rotate_left
        · simp only [Act.put, List.setIfInBounds_toArray, List.set_cons_zero, List.set_cons_succ, i64_w, i32_w]
          rfl
        refine pure_ (i := 4) (N := some 39) (v := ?_) (a' := ?_) #[true, true, true, true, true, false, false, false, false, false, false, false, false, false, false] rfl rfl (by kernel_rfl) (fun _ _ _ h => h) (Or.inl ⟨by rfl, ?_⟩) ?_ ?_
        rotate_left
        · intro w'
          go_simp
          with_reducible rfl
        rotate_left
        · simp only [Act.put, List.setIfInBounds_toArray, List.set_cons_zero, List.set_cons_succ, i64_w, i32_w]
          rfl
        refine pure_ (i := 5) (N := some 40) (v := ?_) (a' := ?_) #[true, true, true, true, true, true, false, false, false, false, false, false, false, false, false] rfl rfl (by kernel_rfl) (fun _ _ _ h => h) (Or.inl ⟨by rfl, ?_⟩) ?_ ?_
        rotate_left
        · intro w'
          go_simp
          with_reducible rfl
        rotate_left
        · simp only [Act.put, List.setIfInBounds_toArray, List.set_cons_zero, List.set_cons_succ, i64_w, i32_w]
          rfl
        refine pure_ (i := 7) (N := some 42) (v := ?_) (a' := ?_) #[true, true, true, true, true, true, false, true, false, false, false, false, false, false, false] rfl rfl (by kernel_rfl) (fun _ _ _ h => h) (Or.inl ⟨by rfl, ?_⟩) ?_ ?_
        rotate_left
        · intro w'
          go_simp
          with_reducible rfl
        rotate_left
        · simp only [Act.put, List.setIfInBounds_toArray, List.set_cons_zero, List.set_cons_succ, i64_w, i32_w]
          rfl
        refine pure_ (i := 8) (N := some 43) (v := ?_) (a' := ?_) #[true, true, true, true, true, true, false, true, true, false, false, false, false, false, false] rfl rfl (by kernel_rfl) (fun _ _ _ h => h) (Or.inl ⟨by rfl, ?_⟩) ?_ ?_
        rotate_left
        · intro w'
          go_simp
          with_reducible rfl
        rotate_left
        · simp only [Act.put, List.setIfInBounds_toArray, List.set_cons_zero, List.set_cons_succ, i64_w, i32_w]
          rfl
        refine pure_ (i := 9) (N := some 44) (v := ?_) (a' := ?_) #[true, true, true, true, true, true, false, true, true, true, false, false, false, false, false] rfl rfl (by kernel_rfl) (fun _ _ _ h => h) (Or.inl ⟨by rfl, ?_⟩) ?_ ?_
        rotate_left
        · intro w'
          go_simp
          with_reducible rfl
        rotate_left
        · simp only [Act.put, List.setIfInBounds_toArray, List.set_cons_zero, List.set_cons_succ, i64_w, i32_w]
          rfl
        refine take_ (i := 10) (N := some 45) (v := ?_) (a' := ?_) #[true, true, true, true, true, true, false, true, true, true, true, false, false, false, false] rfl rfl (by kernel_rfl) (fun _ _ _ h => h) (Or.inl ⟨by rfl, ?_⟩) hHeld ?_ ?_
        rotate_left
        · rintro w' ⟨s0, s1⟩
          go_simp
          with_reducible rfl
        rotate_left
        · simp only [Act.put, List.setIfInBounds_toArray, List.set_cons_zero, List.set_cons_succ, i64_w, i32_w]
          rfl
        refine pure_ (i := 11) (N := some 46) (v := ?_) (a' := ?_) #[true, true, true, true, true, true, false, true, true, true, true, true, false, false, false] rfl rfl (by kernel_rfl) (fun _ _ _ h => h) (Or.inl ⟨by rfl, ?_⟩) ?_ ?_
        rotate_left
        · intro w'
          go_simp
          with_reducible rfl
        rotate_left
        · simp only [Act.put, List.setIfInBounds_toArray, List.set_cons_zero, List.set_cons_succ, i64_w, i32_w]
          rfl
        refine pure_ (i := 12) (N := some 47) (v := ?_) (a' := ?_) #[true, true, true, true, true, true, false, true, true, true, true, true, true, false, false] rfl rfl (by kernel_rfl) (fun _ _ _ h => h) (Or.inl ⟨by rfl, ?_⟩) ?_ ?_
        rotate_left
        · intro w'
          go_simp
          with_reducible rfl
        rotate_left
        · simp only [Act.put, List.setIfInBounds_toArray, List.set_cons_zero, List.set_cons_succ, i64_w, i32_w]
          rfl
        refine one_ (i := 6) (N := some 41) #[true, true, true, true, true, true, true, true, true, true, true, true, true, false, false] rfl rfl (by kernel_rfl) (by decide) (fun K hK => ?_)
        refine goes_ Try.func19 (by kernel_rfl) rfl #[.pointer (some ⟨S, 0, none⟩), .int .i64 r, .slice Ah hs.length ch] (by rfl) rfl rfl (by (try simp only [List.map_toArray, List.map_cons, List.map_nil]); first | done | rfl) ?_
        refine (HM1.out.two.runP HW.out r ch HC2.out (by rw [HSL.out]; omega)).mono ?_
        rintro e w2 ⟨rfl, hf⟩
        refine ⟨_, rfl, ?_⟩
        have HM2 := Aside0.mk (HM1.out.fr hf)
        have HC3 := Aside0.mk (Kd.C_below HC2.out (hf.below (Nat.le_refl _) (fun _ e => e.elim)))
        have HF2 : Aside0 (Fr w w2 (fun _ => False)) := ⟨HF1.out.trans hf (fun _ e => e.elim)⟩
        clear hf
        refine hK.out _ _ ⟨HM2.out.c0, HM2.out.c1⟩ (fun hHeld2 => ?_)
        clear hK K
        refine norm_ (a' := ?_) ?_ ?_
        rotate_left
        · show Act.put _ (some 41) _ = _
          simp only [Act.put, List.setIfInBounds_toArray, List.set_cons_zero, List.set_cons_succ, i64_w, i32_w]
          rfl
        refine one_ (i := 13) (N := some 48) #[true, true, true, true, true, true, true, true, true, true, true, true, true, true, false] rfl rfl (by kernel_rfl) (by decide) (fun K hK => ?_)
        refine goes_ Try.func52 (by kernel_rfl) rfl #[.pointer (some ⟨S', 0, none⟩), .int .i64 r, .slice Ah hs.length ch] (by rfl) rfl rfl (by (try simp only [List.map_toArray, List.map_cons, List.map_nil]); first | done | rfl) ?_
        refine (HM2.out.two.runR HW.out r ch HC3.out (by rw [HSL.out]; omega)).mono ?_
        rintro e w3 ⟨rfl, hf⟩
        refine ⟨_, rfl, ?_⟩
        have HM3 := Aside0.mk (HM2.out.fr hf)
        have HC4 := Aside0.mk (Kd.C_below HC3.out (hf.below (Nat.le_refl _) (fun _ e => e.elim)))
        have HF3 : Aside0 (Fr w w3 (fun _ => False)) := ⟨HF2.out.trans hf (fun _ e => e.elim)⟩
        clear hf
        refine hK.out _ _ ⟨HM3.out.c0, HM3.out.c1⟩ (fun hHeld3 => ?_)
        clear hK K
        refine norm_ (a' := ?_) ?_ ?_
        rotate_left
        · show Act.put _ (some 48) _ = _
          simp only [Act.put, List.setIfInBounds_toArray, List.set_cons_zero, List.set_cons_succ, i64_w, i32_w]
          rfl
        refine pure_ (i := 14) (N := some 49) (v := ?_) (a' := ?_) #[true, true, true, true, true, true, true, true, true, true, true, true, true, true, true] rfl rfl (by kernel_rfl) (fun _ _ _ h => h) (Or.inl ⟨by rfl, ?_⟩) ?_ ?_
        rotate_left
        · intro w'
          go_simp
          with_reducible rfl
        rotate_left
        · simp only [Act.put, List.setIfInBounds_toArray, List.set_cons_zero, List.set_cons_succ, i64_w, i32_w]
          rfl
        refine done_ (by kernel_rfl) ?_
        go_wp2
        go_roundw
        case measure => simp [intOf]; omega
        case rel => exact ⟨i + 1, rfl, ⟨by omega⟩, HF3⟩
      · have hi : i = 64 := by have := HI.out; omega
        have d64 : decide (i < 64) = false := by simpa using hlt
        have HMR := HMr
        have q0r := HMR.out.c0
        have q1r := HMR.out.c1
        have q2r := HMR.out.c2
        have hll := hl
        obtain ⟨wo, rfl⟩ : ∃ wo : World, wo = wr := ⟨_, rfl⟩
        have HSZ := Aside0.mk HMR.out.two.size
        have HFS := Aside0.mk HF.out.size
        go_wp2_with (at_builtin; refine Kd.R_append k32 (w0 := wo) B rfl (.tmp 57) (.tmp 61) 28 32 (.agg #[(.int .i64 0), (.int .i64 0)]) 16 rfl Try.underlying28 info32 rfl (by decide) (by omega) (.slice A all.length c) all r [.int .i64 r, .int .i64 r] (fun _ => True) (fun _ => False) rfl rfl (k32_mkM _ _ _ r) (fun _ hk => hk.elim) (fun _ _ => trivial) HMR.out.row (Below.refl _ _) HSZ.out (by omega) ?_; intro v1 w1 hrow hb hg hat; obtain ⟨A1, c1, e1⟩ := Kd.R_slice hrow; rw [List.length_append, show ([r]).length = 1 from rfl] at e1; subst e1; have HROW := Aside0.mk hrow; have HB := Aside0.mk hb; have HG := Aside0.mk hg; have HAT := Aside0.mk hat; have hGne : some G ≠ (Value.slice A all.length c).ownBlock := Kd.R_ne HMR.out.row HMR.out.blk (by decide); have HBK := Aside0.mk (blk_grown HMR.out.blk hg hGne); have hs2 : w1.cell? ⟨G, 2, none⟩ = some (.slice A all.length c) := (blk_cell HBK.out 2).trans rfl; have hf2 := blk_frozen HBK.out 2; clear hrow hb hg hat hGne)
        go_end0
        have hG1 : some G ≠ (Value.slice A1 (all.length + 1) c1).ownBlock := Kd.R_ne HROW.out HBK.out (by decide)
        have hlen : (all ++ [r]).length = all.length + 1 := by simp
        have HS1 : Kd.R k32 32 (w1.setCell ⟨G, 2, none⟩ (Value.slice A1 (all.length + 1) c1)) B (fun _ => True) (.slice A1 (all.length + 1) c1) (all ++ [r]) := Kd.R_mono (Kd.R_far (Kd.R_tight rfl HROW.out) (p := ⟨G, 2, none⟩) (fun k hk e => hG1 (by rw [← hk, e])) _) (fun _ _ => trivial)
        have HFg : Fr w (w1.setCell ⟨G, 2, none⟩ (Value.slice A1 (all.length + 1) c1)) (fun k => k = G ∨ (Value.slice A all.length c).ownBlock = some k) := by
          refine Fr.setCell ?_ (.inl (.inl rfl)) _
          exact (HF.out.mono (fun _ _ e => e.elim)).trans (Fr.of_grown HG.out) (fun j hj => .inl (.inr hj))
        refine ⟨rfl, ⟨A1, c1, ⟨?_, ?_, ?_, HM.out.g⟩⟩, ⟨?_, ?_⟩⟩
        · rw [hlen]
          exact blk_put HBK.out 2 _ rfl
        · refine HM.out.two.kept HFg (fun k hk => .inr ?_)
          rcases hk with e | e
          · exact ⟨_, _, _, e ▸ HM.out.blk, by unfold L3; omega⟩
          · obtain ⟨cs, fr, e2⟩ := MkAt.row_type HM.out.row e
            exact ⟨cs, 32, fr, e2, by unfold L3; omega⟩
        · rw [hlen]; exact HS1
        · refine HFg.below HM.out.two.size (fun k hk => ?_)
          rcases hk with e | e
          · rw [e]; exact HM.out.g
          · exact ((Kd.R_bound HM.out.row).1 k e).2.1
        · intro k cs t fr hk ht
          refine (HFg.blk k (blk_lt hk) (fun hn => ?_)).trans hk
          rcases hn with e | e
          · subst e
            have := HM.out.blk.symm.trans hk
            injection this with this
            injection this with _ e2
            rw [← e2] at ht
            exact absurd ht (by unfold L71; decide)
          · obtain ⟨cs', fr', e2⟩ := MkAt.row_type HM.out.row e
            rw [e2] at hk
            injection hk with hk
            injection hk with _ e3
            rw [← e3] at ht
            exact absurd ht (by unfold L71; decide)
end Go.Proofs.Ytihikenmknphkaa.Q

namespace Go.Proofs.Ytihikenmknphkaa.Q
open Go Go.RowKit Go.Maps Go.Proofs.YtihikenmknphkaaW.PrintWords Go.Proofs.YtihikenmknphkaaW.PrintLast Go.Proofs.YtihikenmknphkaaW.PrintMore Go.Proofs.Ytihikenmknphkaa.M
set_option linter.unusedVariables false
set_option linter.unusedSimpArgs false

def bytesL (l : List Int) : Prop := ∀ x ∈ l, 0 ≤ x ∧ x < 256
theorem rd_byte {l : List Int} (hb : bytesL l) (i : Int) : 0 ≤ rd l i ∧ rd l i < 256 := by
  unfold rd
  rw [List.getD_eq_getElem?_getD]
  cases h : l[i.toNat]? with
  | none => simp
  | some x => exact hb x (List.mem_of_getElem? h)
theorem wrap_small {x : Int} (h0 : -1000000 ≤ x) (h1 : x ≤ 1000000000) : wrap64 x = x := by unfold wrap64; omega
theorem next_ev {l : List Int} (hb : bytesL l) (hl : l.length ≤ 1000) {at_ n : Int} (h0 : 0 ≤ at_) (h1 : at_ ≤ l.length) (hn : 0 < n) : ∃ r, flagstonedraw_Codes_Next.f l at_ n = some (r, min (at_ + 1) l.length) ∧ 0 ≤ r ∧ r < n := by
  unfold flagstonedraw_Codes_Next.f flagstonedraw_Codes_Left.f
  simp only [Option.bind_some]
  by_cases h : at_ < l.length
  · have hr := rd_byte hb at_
    have e1 : wrap64 (at_ + 1) = at_ + 1 := wrap_small (by omega) (by omega)
    have e2 : wrap64 (at_ + 1 - 1) = at_ := by rw [wrap_small (by omega) (by omega)]; omega
    rw [if_pos (by simpa using h), e1, e2, if_pos h0, if_pos h, if_neg (by omega), wrap_small (x := rd l at_) (by omega) (by omega)]
    refine ⟨Int.tmod (rd l at_) n, ?_, Int.tmod_nonneg _ hr.1, Int.tmod_lt_of_pos _ hn⟩
    rw [show min (at_ + 1) (l.length : Int) = at_ + 1 by omega]
  · rw [if_neg (by simp; omega)]
    exact ⟨0, by rw [show min (at_ + 1) (l.length : Int) = at_ by omega], by omega, hn⟩
theorem wide_ev {l : List Int} (hb : bytesL l) (hl : l.length ≤ 1000) {at_ : Int} (h0 : 0 ≤ at_) (h1 : at_ ≤ l.length) : ∃ r, flagstonedraw_Codes_Wide.f l at_ 65536 = some (r, min (at_ + 2) l.length) ∧ 0 ≤ r ∧ r < 65536 := by
  obtain ⟨r1, e1, a1, b1⟩ := next_ev hb hl h0 h1 (n := 256) (by omega)
  obtain ⟨r2, e2, a2, b2⟩ := next_ev hb hl (at_ := min (at_ + 1) l.length) (by omega) (by omega) (n := 256) (by omega)
  unfold flagstonedraw_Codes_Wide.f
  rw [e1]
  simp only [Option.bind_some]
  rw [e2]
  simp only [Option.bind_some]
  rw [if_neg (by omega), wrap_small (x := 256 * r1) (by omega) (by omega), wrap_small (x := 256 * r1 + r2) (by omega) (by omega)]
  refine ⟨Int.tmod (256 * r1 + r2) 65536, ?_, Int.tmod_nonneg _ (by omega), Int.tmod_lt_of_pos _ (by omega)⟩
  rw [show min (min (at_ + 1) (l.length : Int) + 1) (l.length : Int) = min (at_ + 2) (l.length : Int) by omega]
theorem box_codes {w0 w w1 : World} {C : Nat} {l : List Int} {x : Int} (h : IsS71 w0 w C l x) (hk : KeepBut w w1 C none) {b : Nat} {cs : Array Value} {fr : Nat × Nat} (hb : w.heap[b]? = some (Obj.cells cs 32 fr)) : w1.heap[b]? = some (Obj.cells cs 32 fr) := by
  obtain ⟨A0, c0, hg, _, _⟩ := h
  refine (hk.2 b (blk_lt hb) (fun e => ?_) (by simp)).trans hb
  subst e
  rw [hg] at hb
  injection hb with hb
  injection hb with _ e
  exact absurd e (by decide)
theorem IsS71.size {w0 w : World} {C : Nat} {l : List Int} {x : Int} (h : IsS71 w0 w C l x) : C < w.heap.size := by
  obtain ⟨A0, c0, hg, _, _⟩ := h
  exact blk_lt hg
/-- a box of a pair -/
def boxP (x : Int) : Obj := .cells #[.int .i64 x, .int .i64 x] 32 (0, 0)
theorem MkAt.far {B : Nat} {w : World} {G S S' : Nat} {A : Option Addr} {c : Nat} {ns ns' : List N39} {all : List Int} (h : MkAt B w G S S' A c ns ns' all) {b : Nat} {cs : Array Value} (hb : w.heap[b]? = some (Obj.cells cs 32 (0, 0))) (hr : some b ≠ (Value.slice A all.length c).ownBlock) {w1 : World} (hf : Fr w w1 (fun k => k = b)) : MkAt B w1 G S S' A c ns ns' all := by
  refine ⟨(hf.blk G (blk_lt h.blk) (fun e => ?_)).trans h.blk, h.two.kept hf (fun k e => .inr ⟨_, _, _, e ▸ hb, by unfold L3; omega⟩), ?_, h.g⟩
  · subst e
    have := h.blk.symm.trans hb
    unfold boxM at this
    injection this with this
    injection this with _ e
    exact absurd e (by decide)
  · refine Kd.R_mono (Kd.R_step (Kd.R_tight rfl h.row) (fun k ho hlt => hf.blk k hlt (fun e => hr (by rw [← e]; exact ho)))) (fun _ _ => trivial)
theorem IsS71.farB {w0 w : World} {C : Nat} {l : List Int} {x : Int} (h : IsS71 w0 w C l x) {b : Nat} {cs : Array Value} (hb : w.heap[b]? = some (Obj.cells cs 32 (0, 0))) {w1 : World} (hf : Fr w w1 (fun k => k = b)) : IsS71 w0 w1 C l x := by
  obtain ⟨A0, c0, hg, hs, hc⟩ := h
  refine ⟨A0, c0, (hf.blk C (blk_lt hg) (fun e => ?_)).trans hg, hs, hc⟩
  subst e
  rw [hg] at hb
  injection hb with hb
  injection hb with _ e
  exact absurd e (by decide)

/-- what holds between two rounds -/
structure MadeInv (w0 : World) (G S S' C : Nat) (l : List Int) (w : World) (at_ : Int) (ns : List N39) (all : List Int) (A : Option Addr) (c : Nat) : Prop where
  mka : MkAt w0.heap.size w G S S' A c ns ns all
  cod : IsS71 w0 w C l at_
  low : Below w0.heap.size w0 w
  six : Six ns 1600
  room : at_ = l.length ∨ 5 * (ns.length : Int) ≤ 63 * at_
  at0 : 0 ≤ at_
  at1 : at_ ≤ l.length
  alen : (all.length : Int) ≤ 4 + at_
  allv : ∀ x ∈ all, validN ns x = true
  leaf : -1 ∈ all
/-- one round's end -/
theorem MadeInv.next {w0 w w' : World} {G S S' C : Nat} {l : List Int} {at_ at' : Int} {ns ms : List N39} {all : List Int} {A A' : Option Addr} {c c' : Nat} {r : Int} (h : MadeInv w0 G S S' C l w at_ ns all A c) (hl : l.length ≤ 120) (hlt : at_ < l.length) (ha : at' = min (at_ + 5) l.length ∨ at' = min (at_ + 6) l.length)
    (hs : Six (ns ++ ms) (ns.length + 63)) (hr : Mayb (ns ++ ms) r) (hm : MkAt w0.heap.size w' G S S' A' c' (ns ++ ms) (ns ++ ms) (if r = -1002 then all else all ++ [r])) (hc : IsS71 w0 w' C l at') (hb : Below w0.heap.size w0 w') :
    MadeInv w0 G S S' C l w' at' (ns ++ ms) (if r = -1002 then all else all ++ [r]) A' c' := by
  have h1 := h.at0
  have h2 := h.room
  have h3 : 5 * (ns.length : Int) ≤ 63 * at_ := by
    rcases h2 with e | e
    · omega
    · exact e
  have h4 := hs.len
  have h5 := h.alen
  refine ⟨hm, hc, hb, ⟨hs.wf, hs.t6, by omega⟩, ?_, by omega, by omega, ?_, ?_, ?_⟩
  · rcases ha with e | e <;> omega
  · split
    · omega
    · rw [List.length_append, List.length_singleton]; omega
  · intro x hx
    split at hx
    · exact valid_app (h.allv x hx)
    · rcases List.mem_append.1 hx with e | e
      · exact valid_app (h.allv x e)
      · rw [List.mem_singleton] at e
        rcases hr with e2 | e2
        · contradiction
        · rw [e]; exact e2
  · split
    · exact h.leaf
    · exact List.mem_append_left _ h.leaf
end Go.Proofs.Ytihikenmknphkaa.Q

namespace Go.Proofs.Ytihikenmknphkaa.Q
open Go Go.RowKit Go.Maps Go.Proofs.YtihikenmknphkaaW.PrintWords Go.Proofs.YtihikenmknphkaaW.PrintLast Go.Proofs.YtihikenmknphkaaW.PrintMore Go.Proofs.Ytihikenmknphkaa.M
set_option linter.unusedVariables false
set_option linter.unusedSimpArgs false

/-- one store, all of whose blocks are not elder than B -/
def One (T B : Nat) (w : World) (S : Nat) (ns : List N39) (full : Bool) : Prop := ∃ m v, StAt T w S m v ns full ∧ ∀ k, ownS S m v k → B ≤ k
theorem One.size {T B : Nat} {w : World} {S : Nat} {ns : List N39} {full : Bool} (h : One T B w S ns full) : B ≤ w.heap.size := by
  obtain ⟨m, v, h1, h2⟩ := h
  have := h2 S (.inl rfl)
  have := h1.lt (k := S) (.inl rfl)
  omega
theorem One.fr {T B : Nat} {w w1 : World} {S : Nat} {ns : List N39} {full : Bool} (h : One T B w S ns full) (hf : Fr w w1 (fun _ => False)) : One T B w1 S ns full := by
  obtain ⟨m, v, h1, h2⟩ := h
  exact ⟨m, v, h1.kept hf (fun _ _ e => e.elim), h2⟩
theorem One.below {T B : Nat} {w w1 : World} {S : Nat} {ns : List N39} {full : Bool} (h : One T B w S ns full) (hb : Below w.heap.size w w1) : One T B w1 S ns full := h.fr (Fr.of_below hb _)
theorem One.len {T B : Nat} {w : World} {S : Nat} {ns : List N39} {full : Bool} (h : One T B w S ns full) : ns.length ≤ 4000 := by
  obtain ⟨m, v, h1, h2⟩ := h
  exact h1.len
theorem One.call {T B : Nat} {w : World} {S : Nat} {ns ns1 : List N39} {full full1 : Bool} {r : Int} (h : One T B w S ns full) {f : FuncId} {args : Array Value} (hc : ∀ m v, StAt T w S m v ns full → Calls Try.prog f args w (NodeEnd T w S m v ns1 full1 r)) :
    Calls Try.prog f args w fun e w1 => e = .returned (.int .i64 r) ∧ One T B w1 S ns1 full1 ∧ Below B w w1 := by
  have hs := h.size
  obtain ⟨m, v, h1, h2⟩ := h
  refine (hc m v h1).mono ?_
  rintro e w1 ⟨rfl, v1, k1, k2, k3⟩
  refine ⟨rfl, ⟨m, v1, k1, fun k hk => ?_⟩, k2.below hs h2⟩
  rcases own_step k3 hk with e | e
  · exact h2 k e
  · omega
theorem One.newP (B : Nat) (w : World) (hB : B ≤ w.heap.size) : Calls Try.prog 22 #[] w fun e w' => ∃ S, e = .returned (.pointer (some ⟨S, 0, none⟩)) ∧ One 58 B w' S [] false ∧ Below w.heap.size w w' := by
  refine (newP_calls w).mono ?_
  rintro e w' ⟨rfl, h1, h2, h3⟩
  refine ⟨_, rfl, ⟨_, _, h1, fun k hk => ?_⟩, h2⟩
  rcases hk with e | e | e
  · omega
  · omega
  · simp [Value.ownBlock] at e
theorem One.newR (B : Nat) (w : World) (hB : B ≤ w.heap.size) : Calls Try.prog 24 #[] w fun e w' => ∃ S, e = .returned (.pointer (some ⟨S, 0, none⟩)) ∧ One 67 B w' S [] false ∧ Below w.heap.size w w' := by
  refine (newR_calls w).mono ?_
  rintro e w' ⟨rfl, h1, h2, h3⟩
  refine ⟨_, rfl, ⟨_, _, h1, fun k hk => ?_⟩, h2⟩
  rcases hk with e | e | e
  · omega
  · omega
  · simp [Value.ownBlock] at e
theorem One.run {B : Nat} {w : World} {S : Nat} {ns : List N39} {full : Bool} (h : One 58 B w S ns full) (hw : WF ns) (id : Int) {A : Option Addr} (c : Nat) {hs : List Bool} (hC : Kd.C Kd.bool w A hs.length hs) (hl : hs.length ≤ 1000000) :
    Calls Try.prog 19 #[.pointer (some ⟨S, 0, none⟩), .int .i64 id, .slice A hs.length c] w fun e w' => e = .returned (.int .i64 (runG ns id hs)) ∧ Fr w w' (fun _ => False) := by
  obtain ⟨m, v, h1, h2⟩ := h
  exact runP_calls ns id S m v full A c hs w hw h1 hC hl
theorem One.sz {B : Nat} {w : World} {S : Nat} {ns : List N39} {full : Bool} (h : One 58 B w S ns full) (hw : WF ns) (id : Int) (ho : okI id) :
    Calls Try.prog 15 #[.pointer (some ⟨S, 0, none⟩), .int .i64 id] w fun e w' => e = .returned (.int .i64 (sizeF ns id)) ∧ Fr w w' (fun _ => False) := by
  obtain ⟨m, v, h1, h2⟩ := h
  exact sizeP_calls ns id S m v full w hw h1 ho
theorem One.lowk {T B : Nat} {w w1 : World} {S : Nat} {ns : List N39} {full : Bool} (h : One T B w S ns full) (hf : Fr w w1 (fun _ => False)) : Below B w w1 := (Kq.of_fr (L := L71) hf h.size).b
theorem bools_lit (W : World) (base : Nat) (ok : Nat → Prop) (xs : List Bool) (hb : base ≤ W.heap.size) (hok : ok W.heap.size) (hl : xs.length ≤ 1000000000) :
    Kd.R Kd.bool 4 (W.alloc (.cells (encs Value.bool xs).toArray 4)) base ok (.slice (some ⟨W.heap.size, 0, none⟩) xs.length xs.length) xs := by
  refine Kd.R_of_own ⟨by simp [encs], .inr ⟨W.heap.size, xs.length, _, rfl, hb, blk_new W _, Nat.le_refl _, by unfold maxLen; omega, by simp [encs], ?_⟩⟩ (fun k hk => ?_)
  · simp only [Nat.mul_one]
    rw [List.take_of_length_le (by simp [encs])]
  · simp [Value.ownBlock] at hk
    exact hk ▸ hok

/-! ### awake, plainly -/
def aw0 : N39 := ⟨3, -2, -1⟩
def aw1 : N39 := ⟨3, -1, -2⟩
theorem aw_node : nodeF [] 3 (-2) (-1) = some ([aw0], 0) := by
  decide
theorem aw_wf : WF [aw0] := (nodeF_ok WF.nil aw_node).1
theorem aw_ch1 : chooseF 2 [aw0] (fun _ => none) 0 0 (-1) (-2) = some ([aw0, aw1], upd (fun _ => none) (kl3 0 (-1) (-2)) 1, 1, 1) := by
  have ht : min3 (topN [aw0] 0) (topN [aw0] (-1)) (topN [aw0] (-2)) = 3 := by decide
  unfold chooseF
  rw [ht, show cofN [aw0] 0 3 = (-2, -1) by decide, show cofN [aw0] (-1) 3 = (-1, -1) by decide, show cofN [aw0] (-2) 3 = (-2, -2) by decide]
  simp only [chooseF]
  rw [if_neg (by decide), if_neg (by decide), if_neg (by decide), if_neg (by decide)]
  simp only [if_true, Option.bind_some]
  rw [if_neg (by decide), if_neg (by decide)]
  simp only [if_true, Option.bind_some]
  rw [if_neg (by decide), show nodeF [aw0] 3 (-1) (-2) = some ([aw0, aw1], 1) by decide]
  simp only [Option.bind_some]
  rw [if_neg (by decide), if_neg (by omega)]
theorem aw_cd : Cd [aw0] 0 := fun e => by
  rw [ev_node aw_wf (by decide) (by omega), show rd_T39 [aw0] 0 = aw0 by decide]
  cases e aw0.f0
  · rw [if_neg (by simp), ev_leaf (by decide)]; exact .inl (by decide)
  · rw [if_pos rfl, ev_leaf (by decide)]; exact .inr (by decide)
theorem aw_not : ChRes [aw0] 0 (-1) (-2) [aw0, aw1] 1 := .inr ⟨(chOk_iff aw_wf).2 ⟨⟨by decide, aw_cd⟩, by decide, by decide⟩, 2, _, _, aw_ch1⟩
theorem aw_wf2 : WF [aw0, aw1] := (choose_ok 2 aw_wf (fun _ _ e => by cases e) (by decide) (by decide) (by decide) aw_ch1).1
theorem aw_cd2 : Cd [aw0, aw1] 0 := aw_cd.app (ms := [aw1]) aw_wf aw_wf2 (by decide)
theorem aw_ch2 : ∃ memo c, chooseF 2 [aw0, aw1] (fun _ => none) 0 0 0 (-1) = some ([aw0, aw1], memo, c, 0) := by
  have ht : min3 (topN [aw0, aw1] 0) (topN [aw0, aw1] 0) (topN [aw0, aw1] (-1)) = 3 := by decide
  refine ⟨upd (fun _ => none) (kl3 0 0 (-1)) 0, 1, ?_⟩
  unfold chooseF
  rw [ht, show cofN [aw0, aw1] 0 3 = (-2, -1) by decide, show cofN [aw0, aw1] (-1) 3 = (-1, -1) by decide]
  simp only [chooseF]
  rw [if_neg (by decide), if_neg (by decide), if_neg (by decide), if_neg (by decide)]
  simp only [if_true, Option.bind_some]
  rw [if_neg (by decide), if_neg (by decide)]
  simp only [if_true, Option.bind_some]
  rw [if_neg (by decide), show nodeF [aw0, aw1] 3 (-2) (-1) = some ([aw0, aw1], 0) by decide]
  simp only [Option.bind_some]
  rw [if_neg (by decide), if_neg (by omega)]
theorem aw_and : AndRes [aw0, aw1] 0 0 [aw0, aw1] 0 := by
  obtain ⟨memo, c, h⟩ := aw_ch2
  exact .inr ⟨(condF_iff aw_wf2).2 ⟨by decide, aw_cd2⟩, .inr ⟨(chOk_iff aw_wf2).2 ⟨⟨by decide, aw_cd2⟩, by decide, by decide⟩, 2, _, _, h⟩⟩
theorem aw_run1 : runG [aw0, aw1] 0 [false, false, false, true] = 1 := by decide
theorem aw_run2 : runG [aw0, aw1] 1 [] = 1 := by decide
theorem aw_size : sizeF [aw0, aw1] 0 = 1 := by
  classical
  unfold sizeF
  rw [count_same (k := [(0 : Int)]) (q := fun _ => true) (idsL_nodup _) (by simp) (fun x => ?_)]
  · rfl
  · rw [mem_idsL]
    simp only [decide_eq_true_eq, List.mem_singleton, and_true]
    constructor
    · rintro ⟨h1, h2, h3, h4⟩
      have := (h4.valid aw_wf2 h3).2
      omega
    · rintro rfl
      exact ⟨by decide, by omega, by decide, .refl⟩

theorem aw_lit (w : World) : Kd.C Kd.bool (w.alloc (.cells #[.bool false, .bool false, .bool false, .bool true] 4)) (some ⟨w.heap.size, 0, none⟩) ([false, false, false, true] : List Bool).length [false, false, false, true] :=
  (Kd.R_reads' (bools_lit w 0 (fun _ => True) [false, false, false, true] (Nat.zero_le _) trivial (by simp))).2.2
theorem aw_runA {B : Nat} {w : World} {S : Nat} (h : One 58 B w S [aw0, aw1] false) : Calls Try.prog 19 #[.pointer (some ⟨S, 0, none⟩), .int .i64 0, .slice (some ⟨w.heap.size, 0, none⟩) 4 4] (w.alloc (.cells #[.bool false, .bool false, .bool false, .bool true] 4)) fun e w' => e = .returned (.int .i64 1) ∧ Fr w w' (fun _ => False) := by
  have h1 : One 58 B (w.alloc (.cells #[.bool false, .bool false, .bool false, .bool true] 4)) S [aw0, aw1] false := h.below ((Below.refl _ _).alloc (Nat.le_refl _) _)
  have h2 := h1.run aw_wf2 0 4 (aw_lit w) (by simp)
  rw [aw_run1] at h2
  refine Calls.mono h2 ?_
  rintro e w' ⟨rfl, hf⟩
  exact ⟨rfl, (Fr.alloc (Fr.refl w (fun _ => False)) _).trans hf (fun _ e => e.elim)⟩
theorem aw_runB {B : Nat} {w : World} {S : Nat} (h : One 58 B w S [aw0, aw1] false) : Calls Try.prog 19 #[.pointer (some ⟨S, 0, none⟩), .int .i64 1, .slice none 0 0] w fun e w' => e = .returned (.int .i64 1) ∧ Fr w w' (fun _ => False) := by
  have h2 := h.run aw_wf2 1 0 (hs := []) (A := none) (Kd.C_nil Kd.bool w) (by simp)
  rw [aw_run2] at h2
  exact h2

set_option maxRecDepth 100000 in
set_option maxHeartbeats 4000000 in
theorem awake_calls (w : World) : Calls Try.prog 9 #[] w fun e w' => e = .returned (.bool true) ∧ Below w.heap.size w w' := by
  have HW := Aside0.mk aw_wf2
  have tok1 : True := trivial
  go_enter Try.func9, Try.ntmps9
  go_wp2_with (first
    | (go_at_call 22; refine (One.newP w.heap.size w (Nat.le_refl _)).mono ?_; rintro e w1 ⟨S, rfl, h1, b1⟩; have H1 := Aside0.mk h1; have B1 := Aside0.mk b1; clear h1 b1)
    | (go_at_call 18; refine (H1.out.call (fun m v hS => nodeP_calls S m v [] [aw0] false 3 (-2) (-1) 0 _ hS aw_node)).mono ?_; rintro e w2 ⟨rfl, h2, b2⟩; have H2 := Aside0.mk h2; have B2 := Aside0.mk (B1.out.trans b2); clear h2 b2)
    | (go_at_call 20; refine (H2.out.call (fun m v hS => opNotP_calls [aw0] [aw0, aw1] 0 1 S m v false _ aw_wf hS (okI_of (by omega) (by omega)) aw_not)).mono ?_; rintro e w3 ⟨rfl, h3, b3⟩; have H3 := Aside0.mk h3; have B3 := Aside0.mk (B2.out.trans b3); clear h3 b3)
    | (go_at_call 21; refine (H3.out.call (fun m v hS => (both_and HW.out (okI_of (by omega) (by omega)) (okI_of (by omega) (by omega)) aw_and).1 S m v false _ hS)).mono ?_; rintro e w4 ⟨rfl, h4, b4⟩; have H4 := Aside0.mk h4; have B4 := Aside0.mk (B3.out.trans b4); clear h4 b4)
    | (go_at_call 19; have _t := tok1; clear tok1; refine (aw_runA H4.out).mono ?_; rintro e w5 ⟨rfl, hf⟩; have H5 := Aside0.mk (H4.out.fr hf); have B5 := Aside0.mk (B4.out.trans (H4.out.lowk hf)); clear hf)
    | (go_at_call 19; refine (aw_runB H5.out).mono ?_; rintro e w6 ⟨rfl, hf⟩; have H6 := Aside0.mk (H5.out.fr hf); have B6 := Aside0.mk (B5.out.trans (H5.out.lowk hf)); clear hf)
    | (go_at_call 25; refine (leafP_calls S 2 _ (okI_of (by omega) (by omega))).mono ?_; rintro e w' ⟨rfl, rfl⟩)
    | (go_at_call 15; refine (H6.out.sz HW.out 0 (okI_of (by omega) (by omega))).mono ?_; rw [aw_size]; rintro e w7 ⟨rfl, hf⟩; have B7 := Aside0.mk (B6.out.trans (H6.out.lowk hf)); clear hf))
  go_ret
  exact ⟨rfl, B7.out⟩
end Go.Proofs.Ytihikenmknphkaa.Q
