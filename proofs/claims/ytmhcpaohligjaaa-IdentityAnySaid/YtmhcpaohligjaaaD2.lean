/-
  What identity.distances and identity.Path compute, in plain words. No condition.
-/
import Derived.Test.YtmhcpaohligjaaaD
namespace Go.Proofs.Ytmhcpaohligjaaa.Q
open Go.RowKit Go.Proofs.YtmhcpaohligjaaaW.PrintWords Go.Proofs.YtmhcpaohligjaaaW.PrintLast Go.Proofs.Ytmhcpaohligjaaa.M

/-- where a link leads from an id -/
def otherO (k : S28) (x : ByteArray) : Option ByteArray := if x = k.f0 then some k.f1 else if x = k.f1 then some k.f0 else none
abbrev Far := ByteArray → Option Int
def iv (p : Far) : ByteArray → Option Value := fun s => (p s).map (Value.int .i64)
/-- one link seen from an id -/
noncomputable def stepK (x : ByteArray) (s : Far × List ByteArray) (k : S28) : Far × List ByteArray :=
  match otherO k x with
  | none => s
  | some y => match s.1 y with
    | some _ => s
    | none => (upd s.1 y (wrap64 ((s.1 x).getD 0 + 1)), s.2 ++ [y])
noncomputable def stepI (l : List S28) (s : Far × List ByteArray) (x : ByteArray) : Far × List ByteArray := l.foldl (stepK x) s
noncomputable def bfs (l : List S28) : Nat → Far → List ByteArray → Option Far
  | 0, _, _ => none
  | n + 1, far, level => if level = [] then some far else let s := level.foldl (stepI l) (far, []); bfs l n s.1 s.2
noncomputable def far0 (b : ByteArray) : Far := upd (fun _ => none) b 0
theorem iv_upd (p : Far) (s : ByteArray) (d : Int) : upd (iv p) s (.int .i64 d) = iv (upd p s d) := by
  funext z
  unfold iv
  by_cases h : z = s
  · subst h; rw [upd_same, upd_same]; rfl
  · rw [upd_other _ _ h, upd_other _ _ h]
theorem iv_far0 (b : ByteArray) : upd (fun _ => none) b (Value.int .i64 0) = iv (far0 b) := (iv_upd (fun _ => none) b 0)

/-- where far is told: among S; the new ones are told, each once -/
structure Seen (S : List ByteArray) (s : Far × List ByteArray) : Prop where
  dom : ∀ x d, s.1 x = some d → x ∈ S
  mem : ∀ x ∈ s.2, ∃ d, s.1 x = some d
  nd : s.2.Nodup

theorem nodup_le {α : Type} [DecidableEq α] : ∀ {l S : List α}, l.Nodup → (∀ x ∈ l, x ∈ S) → l.length ≤ S.length
  | [], _, _, _ => Nat.zero_le _
  | x :: l, S, h, hs => by
    obtain ⟨h1, h2⟩ := List.nodup_cons.1 h
    have hx := hs x (by simp)
    have := nodup_le (l := l) (S := S.erase x) h2 (fun y hy => (List.mem_erase_of_ne (fun e => h1 (by rw [← e]; exact hy))).2 (hs y (by simp [hy])))
    rw [List.length_erase_of_mem hx] at this
    have := List.length_pos_of_mem hx
    simp
    omega
theorem Seen.le {S : List ByteArray} {s : Far × List ByteArray} (h : Seen S s) : s.2.length ≤ S.length :=
  nodup_le h.nd (fun x hx => by obtain ⟨d, hd⟩ := h.mem x hx; exact h.dom x d hd)
theorem otherO_mem {k : S28} {x y : ByteArray} (h : otherO k x = some y) : y = k.f0 ∨ y = k.f1 := by
  unfold otherO at h
  split at h
  · cases h; exact .inr rfl
  · split at h
    · cases h; exact .inl rfl
    · cases h
theorem otherO_in {k : S28} {x y : ByteArray} {S : List ByteArray} (h : otherO k x = some y) (hk : k.f0 ∈ S ∧ k.f1 ∈ S) : y ∈ S := by
  rcases otherO_mem h with e | e
  · rw [e]; exact hk.1
  · rw [e]; exact hk.2
theorem iv_dom {S : List ByteArray} {s : Far × List ByteArray} (h : Seen S s) : ∀ x v, iv s.1 x = some v → x ∈ S := by
  intro x v hv
  unfold iv at hv
  cases hx : s.1 x with
  | none => rw [hx] at hv; cases hv
  | some d => exact h.dom x d hx
theorem Seen.stepK {S : List ByteArray} {s : Far × List ByteArray} (h : Seen S s) {k : S28} (x : ByteArray) (h0 : k.f0 ∈ S) (h1 : k.f1 ∈ S) : Seen S (stepK x s k) := by
  unfold Q.stepK
  cases ho : otherO k x with
  | none => exact h
  | some y =>
    cases hf : s.1 y with
    | some d => simpa [hf] using h
    | none =>
      have hy : y ∈ S := by rcases otherO_mem ho with e | e <;> rw [e] <;> assumption
      simp only [hf]
      refine ⟨fun z d hz => ?_, fun z hz => ?_, ?_⟩
      · by_cases e : z = y
        · rw [e]; exact hy
        · exact h.dom z d ((upd_other _ _ e).symm.trans hz)
      · by_cases e : z = y
        · exact ⟨_, by rw [e]; exact upd_same _ _ _⟩
        · simp [e] at hz
          obtain ⟨d, hd⟩ := h.mem z hz
          exact ⟨d, (upd_other _ _ e).trans hd⟩
      · refine List.nodup_append.2 ⟨h.nd, by simp, fun a ha c hc => ?_⟩
        simp at hc
        subst hc
        rintro rfl
        obtain ⟨d, hd⟩ := h.mem _ ha
        rw [hf] at hd
        cases hd
theorem Seen.foldK {S : List ByteArray} (x : ByteArray) : ∀ (l : List S28) {s : Far × List ByteArray}, Seen S s → (∀ k ∈ l, k.f0 ∈ S ∧ k.f1 ∈ S) → Seen S (l.foldl (Q.stepK x) s)
  | [], _, h, _ => h
  | k :: l, _, h, hl => Seen.foldK x l (h.stepK x (hl k (by simp)).1 (hl k (by simp)).2) (fun j hj => hl j (by simp [hj]))
theorem Seen.foldI {S : List ByteArray} (l : List S28) (hl : ∀ k ∈ l, k.f0 ∈ S ∧ k.f1 ∈ S) : ∀ (level : List ByteArray) {s : Far × List ByteArray}, Seen S s → Seen S (level.foldl (stepI l) s)
  | [], _, h => h
  | x :: level, _, h => Seen.foldI l hl level (h.foldK x l hl)
theorem seen_start (l : List S28) (b : ByteArray) : Seen (b :: idsL l) (far0 b, [b]) := by
  refine ⟨fun x d h => ?_, fun x hx => ?_, by simp⟩
  · by_cases e : x = b
    · rw [e]; simp
    · have h2 : far0 b x = none := upd_other (fun _ => none) (0 : Int) e
      have h3 : far0 b x = some d := h
      rw [h2] at h3
      cases h3
  · simp at hx
    subst hx
    exact ⟨0, upd_same (fun _ => none) _ _⟩
theorem Seen.reset {S : List ByteArray} {s : Far × List ByteArray} (h : Seen S s) : Seen S (s.1, []) := ⟨h.dom, (fun x hx => by cases hx), List.nodup_nil⟩

theorem foldl_next28 {β : Type} (g : β → S28 → β) (s : β) {l : List S28} {i : Int} (h0 : 0 ≤ i) (h1 : i < l.length) : (l.take (i + 1).toNat).foldl g s = g ((l.take i.toNat).foldl g s) (rd_T28 l i) := by
  have e : (i + 1).toNat = i.toNat + 1 := by omega
  rw [e, take_snoc28 (by omega), List.foldl_append, ← rd_nat h0]
  rfl
theorem foldl_nextS {β : Type} (g : β → ByteArray → β) (s : β) {l : List ByteArray} {i : Int} (h0 : 0 ≤ i) (h1 : i < l.length) : (l.take (i + 1).toNat).foldl g s = g ((l.take i.toNat).foldl g s) (rdOf ByteArray.empty l i) := by
  have e : (i + 1).toNat = i.toNat + 1 := by omega
  have e2 : l.take (i.toNat + 1) = l.take i.toNat ++ [rdOf ByteArray.empty l i] := by
    rw [List.take_succ_eq_append_getElem (by omega)]
    simp [rdOf, List.getD_eq_getElem?_getD, List.getElem?_eq_getElem (show i.toNat < l.length by omega)]
  rw [e, e2, List.foldl_append]
  rfl
theorem rdS_mem {l : List ByteArray} {i : Int} (h0 : 0 ≤ i) (h1 : i < l.length) : rdOf ByteArray.empty l i ∈ l := by
  simp only [rdOf, List.getD_eq_getElem?_getD, List.getElem?_eq_getElem (show i.toNat < l.length by omega), Option.getD_some]
  exact List.getElem_mem _

/-- a map holds no more entries than there are keys at which it may hold one -/
theorem MapIs_bound {P : Program} {k : TypeId} {w : World} {b n : Nat} {f : Lit → Option Value} (h : MapIs P k w b n f) (K : Maps.Keyed P k) (S : List Lit) (hS : ∀ kl v, f kl = some v → kl ∈ S) : MapIs P k w b S.length f := by
  classical
  obtain ⟨D, h1, h2⟩ := h
  obtain ⟨es, e1, hp, hk⟩ := h1.entries K
  obtain ⟨es0, clock, hb, F, hs, hD⟩ := h1
  have hlen : es.length = es0.size := by
    rw [e1] at hD
    injection hD with hD
    rw [hD, length_sorted]
    simp
  have hin : ∀ p ∈ es, p.1 ∈ S := by
    intro p hp'
    have h3 := h2 p.1 .nil
    have h4 : ∃ q, es.find? (fun q => q.1.sameKey p.1) = some q := by
      rw [← Option.isSome_iff_exists, List.find?_isSome]
      exact ⟨p, hp', WideAt.sameKey_self (hk p hp')⟩
    obtain ⟨q, hq⟩ := h4
    cases hf : f p.1 with
    | some v => exact hS _ v hf
    | none =>
      have h5 := h2 p.1 (.lit (.bool true))
      rw [hf, e1] at h3 h5
      simp only [DataW.atKey, hq] at h3 h5
      rw [h3] at h5
      cases h5
  have hle : es.length ≤ S.length := by
    have := nodup_le (l := es.map Prod.fst) (S := S) (by rw [List.Nodup, List.pairwise_map]; exact hp) (fun x hx => by
      obtain ⟨p, hp', rfl⟩ := List.mem_map.1 hx
      exact hin p hp')
    simpa using this
  exact ⟨D, ⟨es0, clock, hb, F, by omega, hD⟩, h2⟩
theorem SMap_bound {P : Program} {k : TypeId} {w : World} {b n : Nat} {p : ByteArray → Option Value} (h : SMap P k w b n p) (hk : P.underlying k = some .string) (S : List ByteArray) (hS : ∀ x v, p x = some v → x ∈ S) : SMap P k w b S.length p := by
  have h1 := MapIs_bound h (Maps.string_keyed hk) (S.map sk) (fun kl v e => by
    cases kl with
    | string l => exact List.mem_map.2 ⟨⟨l.toArray⟩, hS _ v e, by simp [sk]⟩
    | _ => cases e)
  have h2 : MapIs P k w b S.length (sf p) := by simpa using h1
  exact h2

/-- the first link that leads nearer, and where it leads -/
noncomputable def firstK (far : Far) (a : ByteArray) : List S28 → Option (S28 × ByteArray)
  | [] => none
  | k :: l => match otherO k a with
    | none => firstK far a l
    | some x => if far x = some (wrap64 ((far a).getD 0 - 1)) then some (k, x) else firstK far a l
def nextP (g : ByteArray → List S28 → Option (List S28)) (out : List S28) : Option (S28 × ByteArray) → Option (List S28)
  | none => some out
  | some kx => g kx.2 (out ++ [kx.1])
noncomputable def pathN (far : Far) (l : List S28) (b : ByteArray) : Nat → ByteArray → List S28 → Option (List S28)
  | 0, _, _ => none
  | n + 1, a, out => if a = b then some out else nextP (fun x o => pathN far l b n x o) out (firstK far a l)
def fuelL (l : List S28) : Nat := 2 * l.length + 5
noncomputable def pathF (l : List S28) (a b : ByteArray) : Option (List S28 × Bool) :=
  match bfs l (fuelL l) (far0 b) [b] with
  | none => none
  | some far => match far a with
    | none => some ([], false)
    | some _ => (pathN far l b (fuelL l) a []).map fun p => (p, true)
noncomputable def identity_Path.f (l0 : List S28) (a1 a2 : ByteArray) : Option (List S28 × Bool) := (grd (okA l0 ∧ okS a1 ∧ okS a2) ()).bind fun _ => pathF l0 a1 a2
theorem drop_cons28 {l : List S28} {i : Int} (h0 : 0 ≤ i) (h1 : i < l.length) : l.drop i.toNat = rd_T28 l i :: l.drop (i + 1).toNat := by
  have e : (i + 1).toNat = i.toNat + 1 := by omega
  have e2 : rd_T28 l i = l[i.toNat]'(by omega) := by
    simp only [rd_T28, List.getD_eq_getElem?_getD]
    rw [List.getElem?_eq_getElem (by omega)]
    rfl
  rw [e, e2]
  exact List.drop_eq_getElem_cons (by omega)
end Go.Proofs.Ytmhcpaohligjaaa.Q
