/-
  Diagrams: nodes as a kind of row; keys of three numbers; a store in memory. No condition.
  Diagrams: a store, plainly and in memory; what a call leaves as it was. No condition.
  Diagrams: the walks of valid, is, test, top, cofactors, sides, Leaf, New. No condition beyond those that stand in each. (Written by wip/tools/gen_dg.py.)
  Diagrams: the walks of Node. No condition beyond those that stand in each.
-/
import Derived.Test.YtihikenmknphkaaM
import Derived.Test.YtihikenmknphkaaQ0
import Derived.DeepKeys4
import Derived.WideKeyPair
import Derived.Outline
namespace Go.Proofs.Ytihikenmknphkaa.Q
open Go Go.RowKit Go.Maps Go.Proofs.YtihikenmknphkaaW.PrintWords Go.Proofs.YtihikenmknphkaaW.PrintLast Go.Proofs.YtihikenmknphkaaW.PrintMore Go.Proofs.Ytihikenmknphkaa.M
set_option linter.unusedVariables false

structure N39 where
  f0 : Int
  f1 : Int
  f2 : Int
deriving DecidableEq
def z39 : N39 := ⟨0, 0, 0⟩
theorem info39 : (Try.prog.info? 39).map (fun i => (i.zero, i.size, i.bytes)) = some (some (.agg #[(.int .i64 0), (.int .i64 0), (.int .i64 0)]), 3, 24) := by kernel_rfl
def k39 : Kd N39 := Kd.iso (Kd.pair (Kd.int .i64) (Kd.pair (Kd.int .i64) (Kd.int .i64))) (fun x : N39 => (x.f0, x.f1, x.f2))
theorem k39_open {w : World} {x : N39} {cs : List Value} (h : k39.K w x cs) : cs = [.int .i64 x.f0, .int .i64 x.f1, .int .i64 x.f2] := by
  obtain ⟨_, _, rfl, rfl, ⟨_, _, rfl, rfl, rfl⟩⟩ := h
  exact rfl
theorem k39_mkM (w : World) (base : Nat) (ok : Nat → Prop) (x : N39) : k39.M w base ok x [.int .i64 x.f0, .int .i64 x.f1, .int .i64 x.f2] := ⟨[.int .i64 x.f0], [.int .i64 x.f1, .int .i64 x.f2], rfl, rfl, ⟨[.int .i64 x.f1], [.int .i64 x.f2], rfl, rfl, rfl⟩⟩
def rd_T39 (xs : List N39) (i : Int) : N39 := xs.getD i.toNat z39
theorem at_T39 {w : World} {A : Option Addr} {n : Nat} {xs : List N39} (h : Kd.C k39 w A n xs) (i : Int) (h0 : 0 ≤ i) (h1 : i < n) : ∃ ad , A = some ad ∧ w.cell? (ad.add (i.toNat * 3)) = some (.int .i64 (rd_T39 xs i).f0) ∧ w.cell? ⟨(ad.add (i.toNat * 3)).block, (ad.add (i.toNat * 3)).off + 1, none⟩ = some (.int .i64 (rd_T39 xs i).f1) ∧ w.cell? ⟨(ad.add (i.toNat * 3)).block, (ad.add (i.toNat * 3)).off + 2, none⟩ = some (.int .i64 (rd_T39 xs i).f2) := by
  obtain ⟨ad, c, e, _, hK, hc0⟩ := Kd.C_get h z39 i h0 h1
  have hc : ∀ j u, c[j]? = some u → w.cell? (ad.add (i.toNat * 3 + j)) = some u := hc0
  obtain rfl := k39_open hK
  exact ⟨ad, e, hc 0 _ rfl, by rw [← add_field _ _ 1 (by omega)]; exact hc 1 _ rfl, by rw [← add_field _ _ 2 (by omega)]; exact hc 2 _ rfl⟩

/-! ### keys of three numbers -/
theorem laidOutD : laidOutB Try.prog = true := by kernel_rfl
def kl3 (a b c : Int) : Lit := .string (keyBytes [.int .i64 a, .int .i64 b, .int .i64 c])
abbrev okI (a : Int) : Prop := (Lit.int .i64 a).wf = true
theorem okI_of {a : Int} (h0 : -1000000 ≤ a) (h1 : a ≤ 1000000) : okI a := by
  simp [okI, Lit.wf, IntKind.min, IntKind.max, IntKind.signed, IntKind.bits]
  omega
theorem keyTy39 : Try.prog.keyType 39 = true := by kernel_rfl
theorem cells39 : Try.prog.cellsOf 39 = 3 := by kernel_rfl
theorem keyTy79 : Try.prog.keyType 79 = true := by kernel_rfl
theorem cells79 : Try.prog.cellsOf 79 = 3 := by kernel_rfl
theorem cells3 : Try.prog.cellsOf 3 = 1 := by kernel_rfl
theorem tsize : ∃ m, Try.prog.types.size = m + 1 := by
  have h : 0 < Try.prog.types.size := by decide +kernel
  exact ⟨Try.prog.types.size - 1, by omega⟩
theorem K39 : Keyed Try.prog 39 := Keyed.of_law (deep_law_laid laidOutD (m := 3) (by omega) (by decide +kernel) (by kernel_rfl) (by kernel_rfl))
theorem K79 : Keyed Try.prog 79 := Keyed.of_law (deep_law_laid laidOutD (m := 3) (by omega) (by decide +kernel) (by kernel_rfl) (by kernel_rfl))
theorem key79 {a b c : Int} (wa : okI a) (wb : okI b) (wc : okI c) : keyOf Try.prog 79 (.agg #[.int .i64 a, .int .i64 b, .int .i64 c]) = some (kl3 a b c) := by
  obtain ⟨m, hm⟩ := tsize
  unfold keyOf
  simp only [Try.underlying79]
  rw [if_pos (by simp [keyTy79, Value.formed, Try.underlying79, cells79]), hm]
  unfold Program.keyLits
  simp only [Try.underlying79, Value.cells]
  rw [if_pos (by rw [cells79]; rfl), show List.range 3 = [0, 1, 2] from rfl, List.mapM_cons, List.mapM_cons, List.mapM_cons, List.mapM_nil]
  have wa' : (Lit.int .i64 a).wf = true := wa
  have wb' : (Lit.int .i64 b).wf = true := wb
  have wc' : (Lit.int .i64 c).wf = true := wc
  simp [cells3, Program.keyLits, Try.underlying3, wa', wb', wc', kl3]
theorem key39 {a b c : Int} (wa : okI a) (wb : okI b) (wc : okI c) : keyOf Try.prog 39 (.agg #[.int .i64 a, .int .i64 b, .int .i64 c]) = some (kl3 a b c) := by
  obtain ⟨m, hm⟩ := tsize
  unfold keyOf
  simp only [Try.underlying39]
  rw [if_pos (by simp [keyTy39, Value.formed, Try.underlying39, cells39]), hm]
  unfold Program.keyLits
  simp only [Try.underlying39, Value.cells]
  rw [if_pos (by rw [cells39]; exact ⟨rfl, by simp⟩)]
  have wa' : (Lit.int .i64 a).wf = true := wa
  have wb' : (Lit.int .i64 b).wf = true := wb
  have wc' : (Lit.int .i64 c).wf = true := wc
  simp [cells3, Program.keyLits, Try.underlying3, wa', wb', wc', kl3, List.mapM_cons]
theorem kl3_inj {a b c a' b' c' : Int} (wa : okI a) (wb : okI b) (wc : okI c) (wa' : okI a') (wb' : okI b') (wc' : okI c') (h : kl3 a b c = kl3 a' b' c') : a = a' ∧ b = b' ∧ c = c' := by
  have h1 := K79.inj (key79 wa wb wc) (by rw [h]; exact key79 wa' wb' wc')
  simp at h1
  exact h1
end Go.Proofs.Ytihikenmknphkaa.Q

namespace Go.Proofs.Ytihikenmknphkaa.Q
open Go Go.RowKit Go.Maps Go.Proofs.YtihikenmknphkaaW.PrintWords Go.Proofs.YtihikenmknphkaaW.PrintLast Go.Proofs.YtihikenmknphkaaW.PrintMore Go.Proofs.Ytihikenmknphkaa.M
set_option linter.unusedVariables false

/-! ### plainly -/
def validN (ns : List N39) (id : Int) : Bool := decide (-1002 < id) && decide (id < ns.length)
def topN (ns : List N39) (id : Int) : Int := if id < 0 then 1001 else (rd_T39 ns id).f0
def refuses (ns : List N39) (t y n : Int) : Bool := decide (t < 0) || decide (1000 < t) || !validN ns y || !validN ns n || decide (topN ns y ≤ t) || decide (topN ns n ≤ t)
def findN (ns : List N39) (nd : N39) : Option Nat := ns.findIdx? (fun x => decide (x = nd))
/-- Node, but where the store is full -/
def nodeF (ns : List N39) (t y n : Int) : Option (List N39 × Int) :=
  if refuses ns t y n then some (ns, -1002)
  else if y = n then some (ns, y)
  else match findN ns ⟨t, y, n⟩ with
    | some i => some (ns, i)
    | none => if 4000 ≤ ns.length then none else some (ns ++ [⟨t, y, n⟩], ns.length)
/-- numbers that a node may hold -/
def okN (x : N39) : Prop := (0 ≤ x.f0 ∧ x.f0 ≤ 1000) ∧ (-1002 ≤ x.f1 ∧ x.f1 ≤ 100000) ∧ (-1002 ≤ x.f2 ∧ x.f2 ≤ 100000)
def keyN (x : N39) : Lit := kl3 x.f0 x.f1 x.f2
theorem okN.ok {x : N39} (h : okN x) : okI x.f0 ∧ okI x.f1 ∧ okI x.f2 := ⟨okI_of (by have := h.1; omega) (by have := h.1; omega), okI_of (by have := h.2.1; omega) (by have := h.2.1; omega), okI_of (by have := h.2.2; omega) (by have := h.2.2; omega)⟩
theorem keyN_inj {x y : N39} (hx : okN x) (hy : okN y) (h : keyN x = keyN y) : x = y := by
  obtain ⟨a1, a2, a3⟩ := hx.ok
  obtain ⟨b1, b2, b3⟩ := hy.ok
  obtain ⟨e1, e2, e3⟩ := kl3_inj a1 a2 a3 b1 b2 b3 h
  cases x; cases y
  simp at e1 e2 e3
  simp [e1, e2, e3]
theorem findN_some {ns : List N39} {nd : N39} {i : Nat} (h : findN ns nd = some i) : ∃ h : i < ns.length, ns[i] = nd := by
  unfold findN at h
  rw [List.findIdx?_eq_some_iff_getElem] at h
  obtain ⟨hi, hp, _⟩ := h
  exact ⟨hi, by simpa using hp⟩
theorem findN_none {ns : List N39} {nd : N39} (h : findN ns nd = none) : nd ∉ ns := by
  unfold findN at h
  rw [List.findIdx?_eq_none_iff] at h
  intro hm
  have := h nd hm
  simp at this
theorem findN_snoc {ns : List N39} {nd : N39} (x : N39) (h : nd ∉ ns) : findN (ns ++ [nd]) x = if x = nd then some ns.length else findN ns x := by
  unfold findN
  rw [List.findIdx?_append]
  by_cases e : x = nd
  · subst e
    have : List.findIdx? (fun y => decide (y = x)) ns = none := by
      rw [List.findIdx?_eq_none_iff]
      intro y hy
      simp
      rintro rfl
      exact h hy
    simp [this, List.findIdx?_cons]
  · rw [if_neg e]
    have : List.findIdx? (fun y => decide (y = x)) [nd] = none := by simp [List.findIdx?_cons, Ne.symm e]
    rw [this]
    simp

/-- what the map of a store holds -/
noncomputable def idsF (ns : List N39) : Lit → Option Value := fun kl => @dite _ (∃ x, okN x ∧ kl = keyN x ∧ (findN ns x).isSome) (Classical.propDecidable _) (fun h => (findN ns h.choose).map fun (i : Nat) => Value.int .i64 (i : Int)) (fun _ => none)
theorem idsF_key {ns : List N39} {x : N39} (hx : okN x) : idsF ns (keyN x) = (findN ns x).map fun (i : Nat) => Value.int .i64 (i : Int) := by
  unfold idsF
  by_cases h : ∃ y, okN y ∧ keyN x = keyN y ∧ (findN ns y).isSome
  · rw [dif_pos h]
    have := h.choose_spec
    have e : h.choose = x := (keyN_inj hx this.1 this.2.1).symm
    rw [e]
  · rw [dif_neg h]
    cases hf : findN ns x with
    | none => rfl
    | some i => exact absurd ⟨x, hx, rfl, by rw [hf]; rfl⟩ h
theorem idsF_nil : idsF [] = fun _ => none := by
  funext kl
  unfold idsF
  rw [dif_neg]
  rintro ⟨x, _, _, h⟩
  simp [findN] at h
theorem idsF_snoc {ns : List N39} {nd : N39} (hn : okN nd) (h : nd ∉ ns) : upd (idsF ns) (keyN nd) (.int .i64 (ns.length : Int)) = idsF (ns ++ [nd]) := by
  funext kl
  by_cases hk : kl = keyN nd
  · rw [hk, upd_same, idsF_key hn, findN_snoc nd h, if_pos rfl]
    rfl
  · rw [upd_other _ _ hk]
    by_cases hx : ∃ x, okN x ∧ kl = keyN x
    · obtain ⟨x, hx, rfl⟩ := hx
      have hne : x ≠ nd := fun e => hk (by rw [e])
      rw [idsF_key hx, idsF_key hx, findN_snoc x h, if_neg hne]
    · unfold idsF
      rw [dif_neg (fun ⟨x, h1, h2, _⟩ => hx ⟨x, h1, h2⟩), dif_neg (fun ⟨x, h1, h2, _⟩ => hx ⟨x, h1, h2⟩)]

/-! ### what a call leaves as it was -/
structure Fr (w w' : World) (F : Nat → Prop) : Prop where
  b0 : Below 0 w w'
  blk : ∀ k, k < w.heap.size → ¬ F k → w'.heap[k]? = w.heap[k]?
theorem Fr.refl (w : World) (F : Nat → Prop) : Fr w w F := ⟨Below.refl _ _, fun _ _ _ => rfl⟩
theorem Fr.size {w w' : World} {F : Nat → Prop} (h : Fr w w' F) : w.heap.size ≤ w'.heap.size := h.b0.size
theorem Fr.mono {w w' : World} {F G : Nat → Prop} (h : Fr w w' F) (hg : ∀ k, k < w.heap.size → F k → G k) : Fr w w' G := ⟨h.b0, fun k hk hn => h.blk k hk (fun hf => hn (hg k hk hf))⟩
theorem Fr.trans {w w1 w2 : World} {F G : Nat → Prop} (h : Fr w w1 F) (k : Fr w1 w2 G) (hg : ∀ j, G j → F j ∨ w.heap.size ≤ j) : Fr w w2 F :=
  ⟨h.b0.trans k.b0, fun j hj hn => (k.blk j (Nat.lt_of_lt_of_le hj h.size) (fun h2 => (hg j h2).elim hn (fun h3 => by omega))).trans (h.blk j hj hn)⟩
theorem Fr.of_below {w w' : World} (h : Below w.heap.size w w') (F : Nat → Prop) : Fr w w' F := ⟨h.mono (Nat.zero_le _), fun k hk _ => h.block k hk⟩
theorem Fr.of_grown {w w' : World} {row : Option Nat} (h : w.grownBy w' row) : Fr w w' (fun k => row = some k) := ⟨⟨h.os, h.tape, h.output, h.size, fun k hk => absurd hk (Nat.not_lt_zero k)⟩, fun k hk hn => h.block k hk (fun e => hn e.symm)⟩
theorem Fr.then_below {w w1 w2 : World} {F : Nat → Prop} (h : Fr w w1 F) (k : Below w1.heap.size w1 w2) : Fr w w2 F := h.trans (Fr.of_below k (fun _ => False)) (fun _ hk => hk.elim)
theorem Fr.alloc {w w1 : World} {F : Nat → Prop} (h : Fr w w1 F) (o : Obj) : Fr w (w1.alloc o) F := h.then_below ((Below.refl _ _).alloc (Nat.le_refl _) _)
theorem Fr.drew {w w1 : World} {F : Nat → Prop} (h : Fr w w1 F) : Fr w w1.drew F := h.then_below (below_drew1 (Below.refl _ _))
theorem Fr.setCell {w w1 : World} {F : Nat → Prop} (h : Fr w w1 F) {p : Addr} (hp : F p.block ∨ w.heap.size ≤ p.block) (u : Value) : Fr w (w1.setCell p u) F :=
  h.trans (G := fun k => k = p.block) ⟨(Below.refl 0 w1).setCell (by omega) u, fun k _ hn => Below.heap_setCell w1 p u k hn⟩ (fun k hk => by rw [hk]; exact hp)
theorem Fr.below {w w' : World} {F : Nat → Prop} (h : Fr w w' F) {base : Nat} (hb : base ≤ w.heap.size) (hF : ∀ k, F k → base ≤ k) : Below base w w' :=
  ⟨h.b0.os, h.b0.tape, h.b0.output, h.size, fun k hk => h.blk k (by omega) (fun hf => by have := hF k hf; omega)⟩
theorem Fr.cell {w w' : World} {F : Nat → Prop} (h : Fr w w' F) {a : Addr} {u : Value} (hc : w.cell? a = some u) (hn : ¬ F a.block) : w'.cell? a = some u := by
  have := h.blk a.block (World.block_lt_of_cell? w a hc) hn
  simpa [World.cell?, this] using hc
theorem Fr.heap {w w' : World} {F : Nat → Prop} (h : Fr w w' F) {g : Nat} {o : Obj} (hb : w.heap[g]? = some o) (hn : ¬ F g) : w'.heap[g]? = some o := (h.blk g (blk_lt hb) hn).trans hb

/-! ### a store in memory: type T, block S, its map in block m, its row v -/
structure StAt (T : Nat) (w : World) (S m : Nat) (v : Value) (ns : List N39) (full : Bool) : Prop where
  blk : w.heap[S]? = some (.cells #[v, .map (some m), .bool full] T (0, 0))
  row : Kd.R k39 39 w 0 (fun _ => True) v ns
  ids : MapIs Try.prog 39 w m ns.length (idsF ns)
  len : ns.length ≤ 4000
  ok : ∀ x ∈ ns, okN x
/-- the blocks of a store -/
def ownS (S m : Nat) (v : Value) (k : Nat) : Prop := k = S ∨ k = m ∨ v.ownBlock = some k
theorem StAt.lt {T : Nat} {w : World} {S m : Nat} {v : Value} {ns : List N39} {full : Bool} (h : StAt T w S m v ns full) {k : Nat} (hk : ownS S m v k) : k < w.heap.size := by
  rcases hk with rfl | rfl | hk
  · exact blk_lt h.blk
  · exact h.ids.lt
  · exact Kd.R_lt h.row k hk
theorem StAt.kept {T : Nat} {w w' : World} {S m : Nat} {v : Value} {ns : List N39} {full : Bool} (h : StAt T w S m v ns full) {F : Nat → Prop} (hk : Fr w w' F) (hF : ∀ k, ownS S m v k → ¬ F k) : StAt T w' S m v ns full := by
  refine ⟨hk.heap h.blk (hF S (.inl rfl)), ?_, ?_, h.len, h.ok⟩
  · have h1 := Kd.R_tight rfl h.row
    exact Kd.R_mono (Kd.R_step h1 (fun k ho hlt => hk.blk k hlt (hF k (.inr (.inr ho.symm))))) (fun _ _ => trivial)
  · exact h.ids.same (hk.blk m h.ids.lt (hF m (.inr (.inl rfl))))
theorem StAt.cell0 {T : Nat} {w : World} {S m : Nat} {v : Value} {ns : List N39} {full : Bool} (h : StAt T w S m v ns full) : w.cell? ⟨S, 0, none⟩ = some v := (blk_cell h.blk 0).trans rfl
theorem StAt.cell1 {T : Nat} {w : World} {S m : Nat} {v : Value} {ns : List N39} {full : Bool} (h : StAt T w S m v ns full) : w.cell? ⟨S, 1, none⟩ = some (.map (some m)) := (blk_cell h.blk 1).trans rfl
theorem StAt.cell2 {T : Nat} {w : World} {S m : Nat} {v : Value} {ns : List N39} {full : Bool} (h : StAt T w S m v ns full) : w.cell? ⟨S, 2, none⟩ = some (.bool full) := (blk_cell h.blk 2).trans rfl
end Go.Proofs.Ytihikenmknphkaa.Q

namespace Go.Proofs.Ytihikenmknphkaa.Q
open Go Go.RowKit Go.Maps Go.Proofs.YtihikenmknphkaaW.PrintWords Go.Proofs.YtihikenmknphkaaW.PrintLast Go.Proofs.YtihikenmknphkaaW.PrintMore Go.Proofs.Ytihikenmknphkaa.M
set_option linter.unusedVariables false
set_option linter.unusedSimpArgs false

def cofN (ns : List N39) (id t : Int) : Int × Int := if topN ns id = t then ((rd_T39 ns id).f1, (rd_T39 ns id).f2) else (id, id)
def leafN (n : Int) : Int := if n < 0 ∨ 1000 < n then -1002 else -1 - n

theorem validP_calls (S m : Nat) (v : Value) (ns : List N39) (full : Bool) (id : Int) (w : World) (hS : StAt 58 w S m v ns full) :
    Calls Try.prog 44 #[.pointer (some ⟨S, 0, none⟩), .int .i64 id] w fun e w' => e = .returned (.bool (validN ns id)) ∧ w = w' := by
  obtain ⟨A, c, rfl⟩ := Kd.R_slice hS.row
  have hc0 := hS.cell0
  have hl := hS.len
  have HV : Aside0 (validN ns id = (decide (-1002 < id) && decide (id < ns.length))) := ⟨rfl⟩
  clear hS
  by_cases h1 : -1002 < id
  · by_cases h2 : id < (ns.length : Int)
    · have HE : Aside0 (validN ns id = true) := ⟨by rw [HV.out]; simp [h1, h2]⟩
      rw [HE.out]
      have d1 : decide (-1002 < id) = true := by simpa using h1
      have d2 : decide (id < (ns.length : Int)) = true := by simpa using h2
      go_enter Try.func44, Try.ntmps44
      go_wp2
      go_ret
      exact ⟨rfl, rfl⟩
    · have HE : Aside0 (validN ns id = false) := ⟨by rw [HV.out]; simp [h2]⟩
      rw [HE.out]
      have d1 : decide (-1002 < id) = true := by simpa using h1
      have d2 : decide (id < (ns.length : Int)) = false := by simpa using h2
      go_enter Try.func44, Try.ntmps44
      go_wp2
      go_ret
      exact ⟨rfl, rfl⟩
  · have HE : Aside0 (validN ns id = false) := ⟨by rw [HV.out]; simp [h1]⟩
    rw [HE.out]
    have d1 : decide (-1002 < id) = false := by simpa using h1
    go_enter Try.func44, Try.ntmps44
    go_wp2
    go_ret
    exact ⟨rfl, rfl⟩
theorem topP_calls (S m : Nat) (v : Value) (ns : List N39) (full : Bool) (id : Int) (w : World) (hS : StAt 58 w S m v ns full) (hid : id < ns.length) :
    Calls Try.prog 45 #[.pointer (some ⟨S, 0, none⟩), .int .i64 id] w fun e w' => e = .returned (.int .i64 (topN ns id)) ∧ w = w' := by
  obtain ⟨A, c, rfl⟩ := Kd.R_slice hS.row
  have hc0 := hS.cell0
  have hl := hS.len
  by_cases h0 : id < 0
  · have HE : Aside0 (topN ns id = 1001) := ⟨by unfold topN; rw [if_pos h0]⟩
    rw [HE.out]
    clear hS
    go_enter Try.func45, Try.ntmps45
    go_wp2
    go_ret
    exact ⟨rfl, rfl⟩
  · have HE : Aside0 (topN ns id = (rd_T39 ns id).f0) := ⟨by unfold topN; rw [if_neg h0]⟩
    rw [HE.out]
    have p0 : 0 ≤ id := by omega
    obtain ⟨ad, e, hx0, hx1, hx2⟩ := at_T39 (Kd.R_reads' hS.row).2.2 id p0 hid
    cases e
    generalize rd_T39 ns id = x at hx0 hx1 hx2
    clear hS h0
    go_enter Try.func45, Try.ntmps45
    go_wp2
    go_ret
    exact ⟨rfl, rfl⟩
theorem cofP_calls (S m : Nat) (v : Value) (ns : List N39) (full : Bool) (id t : Int) (w : World) (hS : StAt 58 w S m v ns full) (hid : id < ns.length) (ht : t < 1001) :
    Calls Try.prog 60 #[.pointer (some ⟨S, 0, none⟩), .int .i64 id, .int .i64 t] w fun e w' => e = .returned (.tuple #[.int .i64 (cofN ns id t).1, .int .i64 (cofN ns id t).2]) ∧ Below w.heap.size w w' := by
  have k1 := topP_calls S m v ns full id w hS hid
  by_cases h : topN ns id = t
  · have HE : Aside0 (cofN ns id t = ((rd_T39 ns id).f1, (rd_T39 ns id).f2)) := ⟨by unfold cofN; rw [if_pos h]⟩
    rw [HE.out]
    have p0 : 0 ≤ id := by
      unfold topN at h
      split at h
      · omega
      · omega
    obtain ⟨A, c, rfl⟩ := Kd.R_slice hS.row
    have hc0 := hS.cell0
    have hl := hS.len
    obtain ⟨ad, e, hx0, hx1, hx2⟩ := at_T39 (Kd.R_reads' hS.row).2.2 id p0 hid
    cases e
    have hb : (topN ns id == t) = true := by simpa using h
    have hb2 : (topN ns id != t) = false := by simp [h]
    generalize rd_T39 ns id = x at hx0 hx1 hx2
    generalize topN ns id = tt at k1 hb hb2
    clear hS h
    go_enter Try.func60, Try.ntmps60
    go_wp2_with (go_at_call 45; refine k1.mono ?_; rintro e w' ⟨rfl, rfl⟩)
    go_quiet (fail)
    go_wp2
    go_ret2
    exact ⟨rfl, by repeat (first | exact Below.refl _ _ | apply below_alloc | apply pw_below_drewN | apply below_drew1)⟩
  · have HE : Aside0 (cofN ns id t = (id, id)) := ⟨by unfold cofN; rw [if_neg h]⟩
    rw [HE.out]
    have hb : (topN ns id == t) = false := by simpa using h
    have hb2 : (topN ns id != t) = true := by simp [h]
    generalize topN ns id = tt at k1 hb hb2
    clear hS h
    go_enter Try.func60, Try.ntmps60
    go_wp2_with (go_at_call 45; refine k1.mono ?_; rintro e w' ⟨rfl, rfl⟩)
    go_ret2
    exact ⟨rfl, Below.refl _ _⟩
theorem leafP_calls (S : Nat) (n : Int) (w : World) (hn : okI n) :
    Calls Try.prog 25 #[.pointer (some ⟨S, 0, none⟩), .int .i64 n] w fun e w' => e = .returned (.int .i64 (leafN n)) ∧ w = w' := by
  by_cases h0 : n < 0
  · have HE : Aside0 (leafN n = -1002) := ⟨by unfold leafN; rw [if_pos (.inl h0)]⟩
    rw [HE.out]
    clear hn
    go_enter Try.func25, Try.ntmps25
    go_wp2
    go_ret
    exact ⟨rfl, rfl⟩
  · have d0 : decide (n < 0) = false := by simpa using h0
    by_cases h1 : 1000 < n
    · have HE : Aside0 (leafN n = -1002) := ⟨by unfold leafN; rw [if_pos (.inr h1)]⟩
      rw [HE.out]
      have d1 : decide (1000 < n) = true := by simpa using h1
      clear hn
      go_enter Try.func25, Try.ntmps25
      go_wp2
      go_ret
      exact ⟨rfl, rfl⟩
    · have HE : Aside0 (leafN n = -1 - n) := ⟨by unfold leafN; rw [if_neg (by omega)]⟩
      rw [HE.out]
      have d1 : decide (1000 < n) = false := by simpa using h1
      clear hn
      go_enter Try.func25, Try.ntmps25
      go_wp2
      go_ret
      exact ⟨rfl, rfl⟩
theorem newP_calls (w : World) : Calls Try.prog 22 #[] w fun e w' => e = .returned (.pointer (some ⟨w.heap.size + 1, 0, none⟩)) ∧ StAt 58 w' (w.heap.size + 1) w.heap.size (.slice none 0 0) [] false ∧ Below w.heap.size w w' ∧ w'.heap.size = w.heap.size + 2 := by
  have hmm := @run_makeMap Try.prog
  go_enter Try.func22, Try.ntmps22
  go_wp2
  go_ret
  refine ⟨rfl, ⟨?_, Kd.R_nil _ _ _ _ _, ?_, by simp, fun x hx => by simp at hx⟩, ((Below.refl _ _).alloc (Nat.le_refl _) _).alloc (by simp) _, by simp⟩
  · have := blk_new (w.alloc (.map #[] 0)) (.cells #[.slice none 0 0, .map (some w.heap.size), .bool false] 58)
    simpa using this
  · rw [idsF_nil]
    exact (MapIs.made w Try.prog 39).alloc _

theorem validR_calls (S m : Nat) (v : Value) (ns : List N39) (full : Bool) (id : Int) (w : World) (hS : StAt 67 w S m v ns full) :
    Calls Try.prog 42 #[.pointer (some ⟨S, 0, none⟩), .int .i64 id] w fun e w' => e = .returned (.bool (validN ns id)) ∧ w = w' := by
  obtain ⟨A, c, rfl⟩ := Kd.R_slice hS.row
  have hc0 := hS.cell0
  have hl := hS.len
  have HV : Aside0 (validN ns id = (decide (-1002 < id) && decide (id < ns.length))) := ⟨rfl⟩
  clear hS
  by_cases h1 : -1002 < id
  · by_cases h2 : id < (ns.length : Int)
    · have HE : Aside0 (validN ns id = true) := ⟨by rw [HV.out]; simp [h1, h2]⟩
      rw [HE.out]
      have d1 : decide (-1002 < id) = true := by simpa using h1
      have d2 : decide (id < (ns.length : Int)) = true := by simpa using h2
      go_enter Try.func42, Try.ntmps42
      go_wp2
      go_ret
      exact ⟨rfl, rfl⟩
    · have HE : Aside0 (validN ns id = false) := ⟨by rw [HV.out]; simp [h2]⟩
      rw [HE.out]
      have d1 : decide (-1002 < id) = true := by simpa using h1
      have d2 : decide (id < (ns.length : Int)) = false := by simpa using h2
      go_enter Try.func42, Try.ntmps42
      go_wp2
      go_ret
      exact ⟨rfl, rfl⟩
  · have HE : Aside0 (validN ns id = false) := ⟨by rw [HV.out]; simp [h1]⟩
    rw [HE.out]
    have d1 : decide (-1002 < id) = false := by simpa using h1
    go_enter Try.func42, Try.ntmps42
    go_wp2
    go_ret
    exact ⟨rfl, rfl⟩
theorem topR_calls (S m : Nat) (v : Value) (ns : List N39) (full : Bool) (id : Int) (w : World) (hS : StAt 67 w S m v ns full) (hid : id < ns.length) :
    Calls Try.prog 47 #[.pointer (some ⟨S, 0, none⟩), .int .i64 id] w fun e w' => e = .returned (.int .i64 (topN ns id)) ∧ w = w' := by
  obtain ⟨A, c, rfl⟩ := Kd.R_slice hS.row
  have hc0 := hS.cell0
  have hl := hS.len
  by_cases h0 : id < 0
  · have HE : Aside0 (topN ns id = 1001) := ⟨by unfold topN; rw [if_pos h0]⟩
    rw [HE.out]
    clear hS
    go_enter Try.func47, Try.ntmps47
    go_wp2
    go_ret
    exact ⟨rfl, rfl⟩
  · have HE : Aside0 (topN ns id = (rd_T39 ns id).f0) := ⟨by unfold topN; rw [if_neg h0]⟩
    rw [HE.out]
    have p0 : 0 ≤ id := by omega
    obtain ⟨ad, e, hx0, hx1, hx2⟩ := at_T39 (Kd.R_reads' hS.row).2.2 id p0 hid
    cases e
    generalize rd_T39 ns id = x at hx0 hx1 hx2
    clear hS h0
    go_enter Try.func47, Try.ntmps47
    go_wp2
    go_ret
    exact ⟨rfl, rfl⟩
theorem cofR_calls (S m : Nat) (v : Value) (ns : List N39) (full : Bool) (id t : Int) (w : World) (hS : StAt 67 w S m v ns full) (hid : id < ns.length) (ht : t < 1001) :
    Calls Try.prog 61 #[.pointer (some ⟨S, 0, none⟩), .int .i64 id, .int .i64 t] w fun e w' => e = .returned (.tuple #[.int .i64 (cofN ns id t).1, .int .i64 (cofN ns id t).2]) ∧ Below w.heap.size w w' := by
  have k1 := topR_calls S m v ns full id w hS hid
  by_cases h : topN ns id = t
  · have HE : Aside0 (cofN ns id t = ((rd_T39 ns id).f1, (rd_T39 ns id).f2)) := ⟨by unfold cofN; rw [if_pos h]⟩
    rw [HE.out]
    have p0 : 0 ≤ id := by
      unfold topN at h
      split at h
      · omega
      · omega
    obtain ⟨A, c, rfl⟩ := Kd.R_slice hS.row
    have hc0 := hS.cell0
    have hl := hS.len
    obtain ⟨ad, e, hx0, hx1, hx2⟩ := at_T39 (Kd.R_reads' hS.row).2.2 id p0 hid
    cases e
    have hb : (topN ns id == t) = true := by simpa using h
    have hb2 : (topN ns id != t) = false := by simp [h]
    generalize rd_T39 ns id = x at hx0 hx1 hx2
    generalize topN ns id = tt at k1 hb hb2
    clear hS h
    go_enter Try.func61, Try.ntmps61
    go_wp2_with (go_at_call 47; refine k1.mono ?_; rintro e w' ⟨rfl, rfl⟩)
    go_quiet (fail)
    go_wp2
    go_ret2
    exact ⟨rfl, by repeat (first | exact Below.refl _ _ | apply below_alloc | apply pw_below_drewN | apply below_drew1)⟩
  · have HE : Aside0 (cofN ns id t = (id, id)) := ⟨by unfold cofN; rw [if_neg h]⟩
    rw [HE.out]
    have hb : (topN ns id == t) = false := by simpa using h
    have hb2 : (topN ns id != t) = true := by simp [h]
    generalize topN ns id = tt at k1 hb hb2
    clear hS h
    go_enter Try.func61, Try.ntmps61
    go_wp2_with (go_at_call 47; refine k1.mono ?_; rintro e w' ⟨rfl, rfl⟩)
    go_ret2
    exact ⟨rfl, Below.refl _ _⟩
theorem leafR_calls (S : Nat) (n : Int) (w : World) (hn : okI n) :
    Calls Try.prog 26 #[.pointer (some ⟨S, 0, none⟩), .int .i64 n] w fun e w' => e = .returned (.int .i64 (leafN n)) ∧ w = w' := by
  by_cases h0 : n < 0
  · have HE : Aside0 (leafN n = -1002) := ⟨by unfold leafN; rw [if_pos (.inl h0)]⟩
    rw [HE.out]
    clear hn
    go_enter Try.func26, Try.ntmps26
    go_wp2
    go_ret
    exact ⟨rfl, rfl⟩
  · have d0 : decide (n < 0) = false := by simpa using h0
    by_cases h1 : 1000 < n
    · have HE : Aside0 (leafN n = -1002) := ⟨by unfold leafN; rw [if_pos (.inr h1)]⟩
      rw [HE.out]
      have d1 : decide (1000 < n) = true := by simpa using h1
      clear hn
      go_enter Try.func26, Try.ntmps26
      go_wp2
      go_ret
      exact ⟨rfl, rfl⟩
    · have HE : Aside0 (leafN n = -1 - n) := ⟨by unfold leafN; rw [if_neg (by omega)]⟩
      rw [HE.out]
      have d1 : decide (1000 < n) = false := by simpa using h1
      clear hn
      go_enter Try.func26, Try.ntmps26
      go_wp2
      go_ret
      exact ⟨rfl, rfl⟩
theorem newR_calls (w : World) : Calls Try.prog 24 #[] w fun e w' => e = .returned (.pointer (some ⟨w.heap.size + 1, 0, none⟩)) ∧ StAt 67 w' (w.heap.size + 1) w.heap.size (.slice none 0 0) [] false ∧ Below w.heap.size w w' ∧ w'.heap.size = w.heap.size + 2 := by
  have hmm := @run_makeMap Try.prog
  go_enter Try.func24, Try.ntmps24
  go_wp2
  go_ret
  refine ⟨rfl, ⟨?_, Kd.R_nil _ _ _ _ _, ?_, by simp, fun x hx => by simp at hx⟩, ((Below.refl _ _).alloc (Nat.le_refl _) _).alloc (by simp) _, by simp⟩
  · have := blk_new (w.alloc (.map #[] 0)) (.cells #[.slice none 0 0, .map (some w.heap.size), .bool false] 67)
    simpa using this
  · rw [idsF_nil]
    exact (MapIs.made w Try.prog 39).alloc _
end Go.Proofs.Ytihikenmknphkaa.Q

namespace Go.Proofs.Ytihikenmknphkaa.Q
open Go Go.RowKit Go.Maps Go.Proofs.YtihikenmknphkaaW.PrintWords Go.Proofs.YtihikenmknphkaaW.PrintLast Go.Proofs.YtihikenmknphkaaW.PrintMore Go.Proofs.Ytihikenmknphkaa.M
set_option linter.unusedVariables false
set_option linter.unusedSimpArgs false

theorem zero3 (w : World) : (zeroValue 3).run Try.prog w = .ok (.int .i64 0) w := by kernel_rfl

set_option maxHeartbeats 2000000 in
theorem nodeP_refuses (S m : Nat) (v : Value) (ns : List N39) (full : Bool) (t y n : Int) (w : World) (hS : StAt 58 w S m v ns full) (hr : refuses ns t y n = true) :
    Calls Try.prog 18 #[.pointer (some ⟨S, 0, none⟩), .int .i64 t, .int .i64 y, .int .i64 n] w fun e w' => e = .returned (.int .i64 (-1002)) ∧ w = w' := by
  have HS := Aside0.mk hS
  have HR : Aside0 (refuses ns t y n = (decide (t < 0) || decide (1000 < t) || !validN ns y || !validN ns n || decide (topN ns y ≤ t) || decide (topN ns n ≤ t))) := ⟨rfl⟩
  have HRR := Aside0.mk hr
  clear hS hr
  by_cases h1 : t < 0
  · have d1 : decide (t < 0) = true := by simpa using h1
    go_enter Try.func18, Try.ntmps18
    go_wp2
    go_ret
    exact ⟨rfl, rfl⟩
  have d1 : decide (t < 0) = false := by simpa using h1
  by_cases h2 : 1000 < t
  · have d2 : decide (1000 < t) = true := by simpa using h2
    go_enter Try.func18, Try.ntmps18
    go_wp2
    go_ret
    exact ⟨rfl, rfl⟩
  have d2 : decide (1000 < t) = false := by simpa using h2
  cases h3 : validN ns y with
  | false =>
    have HY := Aside0.mk h3
    clear h3 HR HRR
    go_enter Try.func18, Try.ntmps18
    go_wp2_with (go_at_call 44; refine (validP_calls S m v ns full _ _ HS.out).mono ?_; rintro e w' ⟨rfl, rfl⟩; rw [HY.out])
    go_ret
    exact ⟨rfl, rfl⟩
  | true =>
    have HY := Aside0.mk h3
    clear h3
    cases h4 : validN ns n with
    | false =>
      have HN := Aside0.mk h4
      clear h4 HR HRR
      go_enter Try.func18, Try.ntmps18
      go_wp2_with (go_at_call 44; refine (validP_calls S m v ns full _ _ HS.out).mono ?_; rintro e w' ⟨rfl, rfl⟩; first | rw [HY.out] | rw [HN.out])
      go_ret
      exact ⟨rfl, rfl⟩
    | true =>
      have HN := Aside0.mk h4
      have HYL : Aside0 (y < (ns.length : Int)) := ⟨by have := HY.out; unfold validN at this; simp at this; exact this.2⟩
      have HNL : Aside0 (n < (ns.length : Int)) := ⟨by have := HN.out; unfold validN at this; simp at this; exact this.2⟩
      clear h4
      by_cases h5 : topN ns y ≤ t
      · have H5 := Aside0.mk h5
        have d5 : decide (topN ns y ≤ t) = true := by simpa using h5
        clear h5 HR HRR
        have k5 := topP_calls S m v ns full y w HS.out HYL.out
        generalize topN ns y = ty at d5 k5 H5
        go_enter Try.func18, Try.ntmps18
        go_wp2_with (first | (go_at_call 44; refine (validP_calls S m v ns full _ _ HS.out).mono ?_; rintro e w' ⟨rfl, rfl⟩; first | rw [HY.out] | rw [HN.out]) | (go_at_call 45; (with_reducible refine k5.mono ?_); rintro e w' ⟨rfl, rfl⟩))
        go_ret
        exact ⟨rfl, rfl⟩
      · have h6 : topN ns n ≤ t := by
          have := HRR.out
          rw [HR.out, d1, d2, HY.out, HN.out, show decide (topN ns y ≤ t) = false by simpa using h5] at this
          simpa using this
        have d5 : decide (topN ns y ≤ t) = false := by simpa using h5
        have d6 : decide (topN ns n ≤ t) = true := by simpa using h6
        clear h5 h6 HR HRR
        have k5 := topP_calls S m v ns full y w HS.out HYL.out
        have k6 := topP_calls S m v ns full n w HS.out HNL.out
        generalize topN ns y = ty at d5 k5
        generalize topN ns n = tn at d6 k6
        go_enter Try.func18, Try.ntmps18
        go_wp2_with (first | (go_at_call 44; refine (validP_calls S m v ns full _ _ HS.out).mono ?_; rintro e w' ⟨rfl, rfl⟩; first | rw [HY.out] | rw [HN.out]) | (go_at_call 45; (with_reducible refine k5.mono ?_); rintro e w' ⟨rfl, rfl⟩) | (go_at_call 45; (with_reducible refine k6.mono ?_); rintro e w' ⟨rfl, rfl⟩))
        go_ret
        exact ⟨rfl, rfl⟩

/-- what a Node that is not refused knows -/
structure NodeOk (ns : List N39) (t y n : Int) : Prop where
  t0 : 0 ≤ t
  t1 : t ≤ 1000
  vy : validN ns y = true
  vn : validN ns n = true
  ty : t < topN ns y
  tn : t < topN ns n
theorem NodeOk.of {ns : List N39} {t y n : Int} (h : refuses ns t y n = false) : NodeOk ns t y n := by
  unfold refuses at h
  simp at h
  obtain ⟨⟨⟨⟨⟨h1, h2⟩, h3⟩, h4⟩, h5⟩, h6⟩ := h
  exact ⟨h1, h2, h3, h4, h5, h6⟩
theorem valid_lt {ns : List N39} {y : Int} (h : validN ns y = true) : -1002 < y ∧ y < (ns.length : Int) := by unfold validN at h; simpa using h
theorem valid_okN {ns : List N39} {t y n : Int} (h : NodeOk ns t y n) (hl : ns.length ≤ 4000) : okN ⟨t, y, n⟩ := by
  have h1 := valid_lt h.vy
  have h2 := valid_lt h.vn
  exact ⟨⟨h.t0, h.t1⟩, ⟨by show -1002 ≤ y; omega, by show y ≤ 100000; omega⟩, ⟨by show -1002 ≤ n; omega, by show n ≤ 100000; omega⟩⟩
/-- what Node leaves: the store told anew -/
def NodeEnd (T : Nat) (w : World) (S m : Nat) (v : Value) (ns' : List N39) (full' : Bool) (r : Int) (e : Ending) (w' : World) : Prop :=
  e = .returned (.int .i64 r) ∧ ∃ v', StAt T w' S m v' ns' full' ∧ Fr w w' (ownS S m v) ∧ (v'.ownBlock = v.ownBlock ∨ ∃ b, v'.ownBlock = some b ∧ w.heap.size ≤ b)

/-- a store into a map, as one step of a region that draws its order -/
theorem mstore_step {P : Program} {ops : Array Oper} {o : Oper} {a : Act} {W : World} {Kc : Act → World → Prop} {Q : Exit → Act → World → Prop} (hw : Region.wanted o (yielded ops a.tmps) = true) (m x v : Operand) (t : TypeId) (hop : o.op = Op.mapUpdate t m x v)
    (k e : TypeId) (KK : Keyed P k) (ht : P.underlying t = some (.map k e)) (b n : Nat) (f : Lit → Option Value)
    (hm : a.eval m = .map (some b)) (h : MapIs P k W b n f) (hn : n < maxLen) (key val : Value) (kl : Lit) (hx : a.eval x = key) (hv : a.eval v = val) (hkey : keyOf P k key = some kl)
    (hN : o.dst = none) (hK : ∀ w', MapIs P k w' b (n + 1) (upd f kl val) → W.grownBy w' (some b) → w'.heap.size = W.heap.size → Kc a w') :
    if Region.wanted o (yielded ops a.tmps) = true then Oper.wp P o a W Kc Q else Kc (a.put o.dst undef) W := by
  rw [if_pos hw]
  obtain ⟨w', hrun, r1, r2, r3⟩ := MapIs.update h KK ht hn hkey val
  unfold Oper.wp
  simp [execOp, hop, hm, hx, hv, hrun, Result.andThen]
  show Kc (a.put o.dst undef) w'
  rw [hN]
  exact hK w' r1 r2 r3
/-- how NodeEnd is reached: what stands of the store when its row and its map have been written -/
theorem StAt.of_parts {T : Nat} {w : World} {S m : Nat} {v : Value} {ns : List N39} {nd : N39} {full : Bool} (hb : w.heap[S]? = some (.cells #[v, .map (some m), .bool full] T (0, 0))) (hr : Kd.R k39 39 w 0 (fun _ => True) v (ns ++ [nd]))
    (hi : MapIs Try.prog 39 w m (ns.length + 1) (upd (idsF ns) (keyN nd) (.int .i64 (ns.length : Int)))) (hl : ns.length < 4000) (ho : ∀ x ∈ ns, okN x) (hn : okN nd) (hni : nd ∉ ns) : StAt T w S m v (ns ++ [nd]) full := by
  refine ⟨hb, hr, ?_, by simp; omega, fun x hx => ?_⟩
  · rw [idsF_snoc hn hni] at hi
    rw [List.length_append]
    exact hi
  · rcases List.mem_append.1 hx with e | e
    · exact ho x e
    · rw [List.mem_singleton] at e; rw [e]; exact hn
end Go.Proofs.Ytihikenmknphkaa.Q
