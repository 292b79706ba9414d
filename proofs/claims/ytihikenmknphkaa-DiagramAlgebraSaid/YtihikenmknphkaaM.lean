/-
  A map of the call's own, told by what it holds at each key: the laws at a look-up, a store, a range, for elements of whatever kind. No condition.
-/
import Derived.Maps.OwnSet
import Derived.Maps.OwnOps
import Derived.Maps.RangeWalk
import Derived.Deep.Draws
import Derived.WalkKit
namespace Go.Proofs.Ytihikenmknphkaa.M
open Go Go.Maps Go.RowKit

/-- an element reads as itself -/
def mpR (v : Value) : Option (DataW Value × List MemPlace) := some (.held v, [])

/-- what a map holds, key by key -/
def Tells (D : DataW Value) (f : Lit → Option Value) : Prop := ∀ kl zd, D.atKey kl zd = match f kl with | some v => .held v | none => zd

/-- block b is a map of at most n entries that holds f -/
def MapIs (P : Program) (k : TypeId) (w : World) (b n : Nat) (f : Lit → Option Value) : Prop :=
  ∃ D : DataW Value, w.ownsMap P k mpR b n D ∧ Tells D f

theorem tells_has {D : DataW Value} {f : Lit → Option Value} (h : Tells D f) (kl : Lit) : Maps.has D kl = (f kl).isSome := by
  cases hf : f kl with
  | none => exact Maps.has_false_of_atKey (fun z => by rw [h kl z, hf])
  | some v => exact Maps.has_true_of_atKey (y := .held v) (fun z => by rw [h kl z, hf])

/-- one key told anew -/
noncomputable def upd {α β : Type} (f : α → Option β) (k : α) (v : β) : α → Option β := fun x => @ite _ (x = k) (Classical.propDecidable _) (some v) (f x)
theorem upd_same {α β : Type} (f : α → Option β) (k : α) (v : β) : upd f k v k = some v := by simp [upd]
theorem upd_other {α β : Type} (f : α → Option β) {k x : α} (v : β) (h : x ≠ k) : upd f k v x = f x := by simp [upd, h]

theorem tells_put {D : DataW Value} {f : Lit → Option Value} (h : Tells D f) (hD : Maps.IsMap D) {kl : Lit} (hk : WideAt.IsKeyLit kl) (v : Value) :
    Tells (D.put kl (.held v)) (upd f kl v) := by
  intro x zd
  by_cases e : x = kl
  · subst e
    rw [Maps.atKey_put_same hD hk, upd_same]
  · rw [Maps.atKey_put_other e, h x zd, upd_other _ _ e]

section
variable {P : Program} {k : TypeId} {w w1 : World} {b n : Nat} {f : Lit → Option Value}

theorem MapIs.made (w : World) (P : Program) (k : TypeId) : MapIs P k (w.alloc (.map #[] 0)) w.heap.size 0 (fun _ => none) :=
  ⟨.map [], World.ownsMap_made w P k mpR, fun kl zd => by simp [DataW.atKey]⟩

theorem MapIs.lt (h : MapIs P k w b n f) : b < w.heap.size := by
  obtain ⟨D, h1, _⟩ := h
  exact h1.lt

theorem MapIs.mono (h : MapIs P k w b n f) {n' : Nat} (hn : n ≤ n') : MapIs P k w b n' f := by
  obtain ⟨D, h1, h2⟩ := h
  exact ⟨D, h1.mono hn, h2⟩

theorem MapIs.kept (h : MapIs P k w b n f) {row : Option Nat} (hg : w.grownBy w1 row) (hne : some b ≠ row) : MapIs P k w1 b n f := by
  obtain ⟨D, h1, h2⟩ := h
  exact ⟨D, h1.kept hg hne, h2⟩

theorem MapIs.same (h : MapIs P k w b n f) (hb : w1.heap[b]? = w.heap[b]?) : MapIs P k w1 b n f := by
  obtain ⟨D, ⟨es, clock, h0, hr⟩, h2⟩ := h
  exact ⟨D, ⟨es, clock, hb.trans h0, hr⟩, h2⟩

theorem MapIs.below (h : MapIs P k w b n f) {B : Nat} (hg : Below B w w1) (hb : b < B) : MapIs P k w1 b n f := h.same (hg.block b hb)

theorem MapIs.alloc (h : MapIs P k w b n f) (o : Obj) : MapIs P k (w.alloc o) b n f := h.kept (World.grownBy_alloc w o none) (by simp)

theorem MapIs.drew (h : MapIs P k w b n f) : MapIs P k w.drew b n f := h
theorem MapIs.setCell (h : MapIs P k w b n f) {a : Addr} (ha : b ≠ a.block) (u : Value) : MapIs P k (w.setCell a u) b n f := by
  obtain ⟨D, h1, h2⟩ := h
  exact ⟨D, h1.setCell ha u, h2⟩

theorem MapIs.congr (h : MapIs P k w b n f) {g : Lit → Option Value} (e : f = g) : MapIs P k w b n g := e ▸ h

/-- a map's block is no row of cells -/
theorem MapIs.no_cells (h : MapIs P k w b n f) {cs : Array Value} {t : TypeId} {fr : Nat × Nat} (hc : w.heap[b]? = some (.cells cs t fr)) : False := by
  obtain ⟨D, ⟨es, clock, h0, _⟩, _⟩ := h
  rw [h0] at hc
  cases hc

theorem MapIs.ne_own (h : MapIs P k w b n f) {base : Nat} {e : TypeId} {size m : Nat} {v : Value} {xs : List Value} (ho : w.ownsRow base e size v m xs) : some b ≠ v.ownBlock := by
  rcases ho.2 with ⟨rfl, _⟩ | ⟨g, cap, cur, rfl, _, hb, _⟩
  · simp [Value.ownBlock]
  · intro e1
    have : b = g := by simpa [Value.ownBlock] using e1
    subst this
    exact h.no_cells hb

theorem MapIs.look (h : MapIs P k w b n f) (c : Bool) (K : Keyed P k) {t e : TypeId} (ht : P.underlying t = some (.map k e)) {z : Value} (hz : (zeroValue e).run P w = .ok z w)
    {key : Value} {kl : Lit} (hkey : keyOf P k key = some kl) :
    (Instr.lookup t (.map (some b)) key c).run P w = .ok (if c then .tuple #[(f kl).getD z, .bool (f kl).isSome] else (f kl).getD z) w := by
  obtain ⟨D, ⟨es, clock, hb, F, _, rfl⟩, h2⟩ := h
  rcases Maps.fit_look c K ht hz hb F hkey with ⟨hrun, _, hat⟩ | ⟨e0, y, _, _, hrun, hRv, hat, _⟩
  · have hn : f kl = none := by
      cases hf : f kl with
      | none => rfl
      | some v =>
        have h3 := hat .nil
        rw [h2 kl .nil, hf] at h3
        cases h3
    rw [hn]
    exact hrun
  · have hn : f kl = some e0.val := by
      have h3 := hat .nil
      have hy : y.1 = .held e0.val := by
        unfold mpR at hRv
        cases hRv
        rfl
      rw [h2 kl .nil, hy] at h3
      cases hf : f kl with
      | none => rw [hf] at h3; cases h3
      | some v => rw [hf] at h3; cases h3; rfl
    rw [hn]
    exact hrun

theorem MapIs.update (h : MapIs P k w b n f) (K : Keyed P k) {t e : TypeId} (ht : P.underlying t = some (.map k e)) (hn : n < maxLen) {key : Value} {kl : Lit} (hkey : keyOf P k key = some kl) (val : Value) :
    ∃ w', (Instr.mapUpdate t (.map (some b)) key val).run P w = .ok () w' ∧ MapIs P k w' b (n + 1) (upd f kl val) ∧ w.grownBy w' (some b) ∧ w'.heap.size = w.heap.size := by
  obtain ⟨D, h1, h2⟩ := h
  obtain ⟨w', hrun, h3, es, clock, es', clock', hb, rfl⟩ := h1.store K ht hn hkey (show mpR val = some (.held val, []) from rfl)
  exact ⟨_, hrun, ⟨_, h3, tells_put h2 h1.isMap (K.key hkey) val⟩, World.mapTurned.grown ⟨es, clock, es', clock', hb, rfl⟩, by simp [ChangeMaps.setBlock]⟩

end

section
variable {P : Program} (w : World) {ops : Array Oper} {rest : List Oper} {o : Oper} {a : Act} {Q : Exit → Act → World → Prop}

/-- the operation at hand puts an entry into a map's literal -/
theorem gate_insert {t : TypeId} {m x v : Operand} (_ho : o.op = .insert t m x v) (h : wpList P ops Q (o :: rest) a w) : wpList P ops Q (o :: rest) a w := h
/-- the operation at hand writes this slot -/
theorem gate_slot {N : Tmp} (_hN : o.dst = some N) (h : wpList P ops Q (o :: rest) a w) : wpList P ops Q (o :: rest) a w := h

/-- 'v, ok := m[k]' -/
theorem lookup_ok (hg : o.guard = none) (m x : Operand) (t : TypeId) (hop : o.op = Op.lookup t m x true)
    (k e : TypeId) (K : Keyed P k) (ht : P.underlying t = some (.map k e)) (z : Value) (hz : (zeroValue e).run P w = .ok z w) (b n : Nat) (f : Lit → Option Value)
    (hm : a.eval m = .map (some b)) (h : MapIs P k w b n f) (key : Value) (kl : Lit) (hx : a.eval x = key) (hkey : keyOf P k key = some kl)
    (hK : wpList P ops Q rest (a.put o.dst (.tuple #[(f kl).getD z, .bool (f kl).isSome])) w) :
    wpList P ops Q (o :: rest) a w := by
  refine wpList_plain hg fun K' hK' => ?_
  have hrun := h.look true K ht hz hkey
  simp only [if_true] at hrun
  unfold Oper.wp
  simp [execOp, hop, hm, hx, hrun, Result.andThen]
  exact hK' _ _ hK

/-- 'm[k]' -/
theorem lookup_one (hg : o.guard = none) (m x : Operand) (t : TypeId) (hop : o.op = Op.lookup t m x false)
    (k e : TypeId) (K : Keyed P k) (ht : P.underlying t = some (.map k e)) (z : Value) (hz : (zeroValue e).run P w = .ok z w) (b n : Nat) (f : Lit → Option Value)
    (hm : a.eval m = .map (some b)) (h : MapIs P k w b n f) (key : Value) (kl : Lit) (hx : a.eval x = key) (hkey : keyOf P k key = some kl)
    (hK : wpList P ops Q rest (a.put o.dst ((f kl).getD z)) w) :
    wpList P ops Q (o :: rest) a w := by
  refine wpList_plain hg fun K' hK' => ?_
  have hrun := h.look false K ht hz hkey
  simp only [Bool.false_eq_true, if_false] at hrun
  unfold Oper.wp
  simp [execOp, hop, hm, hx, hrun, Result.andThen]
  exact hK' _ _ hK

/-- 'm[k] = v' -/
theorem store_one (hg : o.guard = none) (m x v : Operand) (t : TypeId) (hop : o.op = Op.mapUpdate t m x v ∨ o.op = Op.insert t m x v)
    (k e : TypeId) (K : Keyed P k) (ht : P.underlying t = some (.map k e)) (b n : Nat) (f : Lit → Option Value)
    (hm : a.eval m = .map (some b)) (h : MapIs P k w b n f) (hn : n < maxLen) (key val : Value) (kl : Lit) (hx : a.eval x = key) (hv : a.eval v = val) (hkey : keyOf P k key = some kl)
    (hK : ∀ w', MapIs P k w' b (n + 1) (upd f kl val) → w.grownBy w' (some b) → w'.heap.size = w.heap.size → wpList P ops Q rest (a.put o.dst undef) w') :
    wpList P ops Q (o :: rest) a w := by
  refine wpList_plain hg fun K' hK' => ?_
  obtain ⟨w', hrun, r1, r2, r3⟩ := h.update K ht hn hkey val
  unfold Oper.wp
  rcases hop with hop | hop
  · simp [execOp, hop, hm, hx, hv, hrun, Result.andThen]
    exact hK' _ _ (hK w' r1 r2 r3)
  · simp [execOp, hop, hm, hx, hv, hrun, Result.andThen]
    exact hK' _ _ (hK w' r1 r2 r3)

end

/-! ### keys that are strings -/
/-- what a map keyed by strings holds -/
def sf (p : ByteArray → Option Value) : Lit → Option Value
  | .string l => p ⟨l.toArray⟩
  | _ => none
/-- the key of a string -/
def sk (s : ByteArray) : Lit := .string s.data.toList
theorem sf_sk (p : ByteArray → Option Value) (s : ByteArray) : sf p (sk s) = p s := by simp [sf, sk]
theorem sf_put (p : ByteArray → Option Value) (s : ByteArray) (v : Value) : upd (sf p) (sk s) v = sf (upd p s v) := by
  funext x
  by_cases h : x = sk s
  · subst h
    rw [upd_same, sf_sk, upd_same]
  · rw [upd_other _ _ h]
    cases x with
    | string l =>
      have h2 : (⟨l.toArray⟩ : ByteArray) ≠ s := by
        rintro rfl
        exact h (by simp [sk])
      simp only [sf]
      rw [upd_other _ _ h2]
    | _ => rfl

/-- block b is a map keyed by strings that holds p -/
def SMap (P : Program) (k : TypeId) (w : World) (b n : Nat) (p : ByteArray → Option Value) : Prop := MapIs P k w b n (sf p)

theorem SMap.made (w : World) (P : Program) (k : TypeId) : SMap P k (w.alloc (.map #[] 0)) w.heap.size 0 (fun _ => none) :=
  (MapIs.made w P k).congr (by funext x; cases x <;> rfl)

theorem SMap.look1 {P : Program} {k t e : TypeId} {w : World} {b n : Nat} {p : ByteArray → Option Value} (h : SMap P k w b n p) (hk : P.underlying k = some .string) (ht : P.underlying t = some (.map k e)) {z : Value} (hz : (zeroValue e).run P w = .ok z w) {s : ByteArray} (hs : s.size ≤ maxLen) :
    (Instr.lookup t (.map (some b)) (.string s) false).run P w = .ok ((p s).getD z) w := by
  have h1 := MapIs.look h false (string_keyed hk) ht hz (key := .string s) (kl := sk s) (WideMaps.keyOf_string_mk hk hs)
  rw [sf_sk] at h1
  exact h1

section
variable {P : Program} (w : World) {ops : Array Oper} {rest : List Oper} {o : Oper} {a : Act} {Q : Exit → Act → World → Prop}

theorem slookup_ok (hg : o.guard = none) (m x : Operand) (t : TypeId) (hop : o.op = Op.lookup t m x true)
    (k e : TypeId) (hk : P.underlying k = some .string) (ht : P.underlying t = some (.map k e)) (z : Value) (hz : (zeroValue e).run P w = .ok z w) (b n : Nat) (p : ByteArray → Option Value)
    (hm : a.eval m = .map (some b)) (h : SMap P k w b n p) (s : ByteArray) (hx : a.eval x = .string s) (hs : s.size ≤ maxLen)
    (hK : wpList P ops Q rest (a.put o.dst (.tuple #[(p s).getD z, .bool (p s).isSome])) w) :
    wpList P ops Q (o :: rest) a w :=
  lookup_ok w hg m x t hop k e (string_keyed hk) ht z hz b n (sf p) hm h (.string s) (sk s) hx (WideMaps.keyOf_string_mk hk hs) (by rw [sf_sk]; exact hK)

theorem slookup_one (hg : o.guard = none) (m x : Operand) (t : TypeId) (hop : o.op = Op.lookup t m x false)
    (k e : TypeId) (hk : P.underlying k = some .string) (ht : P.underlying t = some (.map k e)) (z : Value) (hz : (zeroValue e).run P w = .ok z w) (b n : Nat) (p : ByteArray → Option Value)
    (hm : a.eval m = .map (some b)) (h : SMap P k w b n p) (s : ByteArray) (hx : a.eval x = .string s) (hs : s.size ≤ maxLen)
    (hK : wpList P ops Q rest (a.put o.dst ((p s).getD z)) w) :
    wpList P ops Q (o :: rest) a w :=
  lookup_one w hg m x t hop k e (string_keyed hk) ht z hz b n (sf p) hm h (.string s) (sk s) hx (WideMaps.keyOf_string_mk hk hs) (by rw [sf_sk]; exact hK)

theorem sstore_one (hg : o.guard = none) (m x v : Operand) (t : TypeId) (hop : o.op = Op.mapUpdate t m x v ∨ o.op = Op.insert t m x v)
    (k e : TypeId) (hk : P.underlying k = some .string) (ht : P.underlying t = some (.map k e)) (b n : Nat) (p : ByteArray → Option Value)
    (hm : a.eval m = .map (some b)) (h : SMap P k w b n p) (hn : n < maxLen) (s : ByteArray) (val : Value) (hx : a.eval x = .string s) (hv : a.eval v = val) (hs : s.size ≤ maxLen)
    (hK : ∀ w', SMap P k w' b (n + 1) (upd p s val) → w.grownBy w' (some b) → w'.heap.size = w.heap.size → wpList P ops Q rest (a.put o.dst undef) w') :
    wpList P ops Q (o :: rest) a w :=
  store_one w hg m x v t hop k e (string_keyed hk) ht b n (sf p) hm h hn (.string s) val (sk s) hx hv (WideMaps.keyOf_string_mk hk hs) fun w' h' => hK w' (h'.congr (sf_put p s val))

end
end Go.Proofs.Ytihikenmknphkaa.M
