/-
  The least numbers of links between ids: what identity.distances comes to. No condition.
-/
import Derived.Test.YtmhcpaohligjaaaT1
import Derived.Test.YtmhcpaohligjaaaD2
namespace Go.Proofs.Ytmhcpaohligjaaa.Q
open Go.RowKit Go.Proofs.YtmhcpaohligjaaaW.PrintWords Go.Proofs.YtmhcpaohligjaaaW.PrintLast Go.Proofs.Ytmhcpaohligjaaa.M
set_option linter.unusedVariables false

/-- n links lead from b to x -/
def WalkN (l : List S28) (b : ByteArray) : Nat → ByteArray → Prop
  | 0, x => x = b
  | n + 1, x => ∃ y, WalkN l b n y ∧ Adj l y x
/-- n is the least number of links that lead from b to x -/
def Dist (l : List S28) (b : ByteArray) (n : Nat) (x : ByteArray) : Prop := WalkN l b n x ∧ ∀ m, m < n → ¬ WalkN l b m x
theorem Dist.unique {l : List S28} {b x : ByteArray} {m n : Nat} (h : Dist l b m x) (k : Dist l b n x) : m = n := by
  rcases Nat.lt_trichotomy m n with h1 | h1 | h1
  · exact absurd h.1 (k.2 m h1)
  · exact h1
  · exact absurd k.1 (h.2 n h1)
theorem walk_dist {l : List S28} {b x : ByteArray} : ∀ {n : Nat}, WalkN l b n x → ∃ m, m ≤ n ∧ Dist l b m x := by
  intro n
  induction n using Nat.strongRecOn with
  | ind n ih =>
    intro h
    rcases Classical.em (∃ m, m < n ∧ WalkN l b m x) with ⟨m, hm, hw⟩ | hn
    · obtain ⟨q, hq, hd⟩ := ih m hm hw
      exact ⟨q, by omega, hd⟩
    · exact ⟨n, Nat.le_refl _, h, fun m hm hw => hn ⟨m, hm, hw⟩⟩
theorem Dist.pred {l : List S28} {b x : ByteArray} {n : Nat} (h : Dist l b (n + 1) x) : ∃ y, Dist l b n y ∧ Adj l y x := by
  obtain ⟨⟨y, hy, ha⟩, hm⟩ := h
  refine ⟨y, ⟨hy, fun m hlt hw => hm (m + 1) (by omega) ⟨y, hw, ha⟩⟩, ha⟩
theorem Dist.next {l : List S28} {b x y : ByteArray} {n : Nat} (h : Dist l b n y) (ha : Adj l y x) : ∃ m, m ≤ n + 1 ∧ Dist l b m x := walk_dist ⟨y, h.1, ha⟩
theorem walk_way {l : List S28} {b x : ByteArray} : ∀ {n : Nat}, WalkN l b n x → Way l b x
  | 0, h => by cases h; exact .start
  | n + 1, h => by
    obtain ⟨y, hy, ha⟩ := h
    exact (walk_way hy).step ha
theorem way_walk {l : List S28} {b x : ByteArray} (h : Way l b x) : ∃ n, WalkN l b n x := by
  induction h with
  | start => exact ⟨0, rfl⟩
  | step _ a ih => obtain ⟨n, hn⟩ := ih; exact ⟨n + 1, _, hn, a⟩
theorem conn_dist {l : List S28} {b x : ByteArray} : Conn l b x ↔ ∃ n, Dist l b n x := by
  rw [conn_way]
  constructor
  · intro h
    obtain ⟨n, hn⟩ := way_walk h
    obtain ⟨m, _, hd⟩ := walk_dist hn
    exact ⟨m, hd⟩
  · rintro ⟨n, hn⟩
    exact walk_way hn.1

theorem other_adj {l : List S28} {k : S28} (hk : k ∈ l) {x y : ByteArray} (h : otherO k x = some y) : Adj l x y := by
  unfold otherO at h
  split at h
  · rename_i e; cases h; exact ⟨k, hk, .inl ⟨e.symm, rfl⟩⟩
  · split at h
    · rename_i e; cases h; exact ⟨k, hk, .inr ⟨rfl, e.symm⟩⟩
    · cases h
theorem adj_other {l : List S28} {x y : ByteArray} (h : Adj l x y) : ∃ k ∈ l, otherO k x = some y ∨ (x = y) := by
  obtain ⟨k, hk, ⟨rfl, rfl⟩ | ⟨rfl, rfl⟩⟩ := h
  · exact ⟨k, hk, .inl (by simp [otherO])⟩
  · by_cases e : k.f1 = k.f0
    · exact ⟨k, hk, .inr e⟩
    · exact ⟨k, hk, .inl (by simp [otherO, e])⟩

/-- what is known while the ids at distance n are looked at -/
structure Part (l : List S28) (b : ByteArray) (n : Nat) (fa : Far) (s : Far × List ByteArray) : Prop where
  ext : ∀ x d, fa x = some d → s.1 x = some d
  new : ∀ x d, s.1 x = some d → fa x = some d ∨ (d = ((n + 1 : Nat) : Int) ∧ x ∈ s.2)
  mem : ∀ x ∈ s.2, s.1 x = some ((n + 1 : Nat) : Int) ∧ fa x = none ∧ WalkN l b (n + 1) x
theorem Part.start (l : List S28) (b : ByteArray) (n : Nat) (fa : Far) : Part l b n fa (fa, []) := ⟨fun x d h => h, fun x d h => .inl h, fun x h => by cases h⟩
theorem Part.step1 {l : List S28} {b : ByteArray} {n : Nat} (hn : n ≤ 1000000000) {fa : Far} {s : Far × List ByteArray} (h : Part l b n fa s) {y : ByteArray} (hy : fa y = some (n : Int)) (hw : WalkN l b n y) {k : S28} (hk : k ∈ l) :
    Part l b n fa (stepK y s k) ∧ (∀ x d, s.1 x = some d → (stepK y s k).1 x = some d) ∧ (∀ x, otherO k y = some x → (stepK y s k).1 x ≠ none) := by
  unfold Q.stepK
  cases ho : otherO k y with
  | none => exact ⟨h, fun _ _ e => e, fun x e => by cases e⟩
  | some x =>
    cases hf : s.1 x with
    | some d =>
      simp only [hf]
      exact ⟨h, fun _ _ e => e, fun z e => by cases e; rw [hf]; simp⟩
    | none =>
      simp only [hf]
      have e1 : wrap64 ((s.1 y).getD 0 + 1) = ((n + 1 : Nat) : Int) := by
        rw [h.ext y _ hy]
        unfold wrap64
        simp
        omega
      rw [e1]
      refine ⟨⟨fun z d e => ?_, fun z d e => ?_, fun z e => ?_⟩, fun z d e => ?_, fun z e => ?_⟩
      · have : z ≠ x := by rintro rfl; rw [h.ext z d e] at hf; cases hf
        exact (upd_other _ _ this).trans (h.ext z d e)
      · by_cases ez : z = x
        · subst ez
          have : (upd s.1 z ((n + 1 : Nat) : Int)) z = some d := e
          rw [upd_same] at this
          cases this
          exact .inr ⟨rfl, by simp⟩
        · have : s.1 z = some d := (upd_other _ _ ez).symm.trans e
          rcases h.new z d this with h1 | ⟨h1, h2⟩
          · exact .inl h1
          · exact .inr ⟨h1, by simp [h2]⟩
      · by_cases ez : z = x
        · subst ez
          refine ⟨upd_same _ _ _, ?_, y, hw, other_adj hk ho⟩
          cases hz : fa z with
          | none => rfl
          | some d => rw [h.ext z d hz] at hf; cases hf
        · simp [ez] at e
          obtain ⟨h1, h2, h3⟩ := h.mem z e
          exact ⟨(upd_other _ _ ez).trans h1, h2, h3⟩
      · have : z ≠ x := by rintro rfl; rw [hf] at e; cases e
        exact (upd_other _ _ this).trans e
      · cases e
        rw [upd_same]
        simp
theorem Part.foldK {l : List S28} {b : ByteArray} {n : Nat} (hn : n ≤ 1000000000) {fa : Far} {y : ByteArray} (hy : fa y = some (n : Int)) (hw : WalkN l b n y) : ∀ (q : List S28) {s : Far × List ByteArray}, (∀ k ∈ q, k ∈ l) → Part l b n fa s →
    Part l b n fa (q.foldl (Q.stepK y) s) ∧ (∀ x d, s.1 x = some d → (q.foldl (Q.stepK y) s).1 x = some d) ∧ (∀ k ∈ q, ∀ x, otherO k y = some x → (q.foldl (Q.stepK y) s).1 x ≠ none)
  | [], s, _, h => ⟨h, fun _ _ e => e, fun k hk => by cases hk⟩
  | k :: q, s, hq, h => by
    obtain ⟨h1, h2, h3⟩ := h.step1 hn hy hw (hq k (by simp))
    obtain ⟨i1, i2, i3⟩ := Part.foldK hn hy hw q (fun j hj => hq j (by simp [hj])) h1
    refine ⟨i1, fun x d e => i2 x d (h2 x d e), fun j hj x e => ?_⟩
    rcases List.mem_cons.1 hj with e1 | e1
    · subst e1
      have := h3 x e
      cases hx : (Q.stepK y s j).1 x with
      | none => exact absurd hx this
      | some d => rw [List.foldl_cons, i2 x d hx]; simp
    · exact i3 j e1 x e
theorem Part.foldI {l : List S28} {b : ByteArray} {n : Nat} (hn : n ≤ 1000000000) {fa : Far} : ∀ (level : List ByteArray) {s : Far × List ByteArray}, (∀ y ∈ level, fa y = some (n : Int) ∧ WalkN l b n y) → Part l b n fa s →
    Part l b n fa (level.foldl (stepI l) s) ∧ (∀ x d, s.1 x = some d → (level.foldl (stepI l) s).1 x = some d) ∧ (∀ y ∈ level, ∀ k ∈ l, ∀ x, otherO k y = some x → (level.foldl (stepI l) s).1 x ≠ none)
  | [], s, _, h => ⟨h, fun _ _ e => e, fun k hk => by cases hk⟩
  | y :: level, s, hl, h => by
    obtain ⟨hy, hw⟩ := hl y (by simp)
    obtain ⟨h1, h2, h3⟩ := Part.foldK hn hy hw l (fun _ hk => hk) h
    obtain ⟨i1, i2, i3⟩ := Part.foldI hn level (fun z hz => hl z (by simp [hz])) h1
    refine ⟨i1, fun x d e => i2 x d (h2 x d e), fun z hz k hk x e => ?_⟩
    rcases List.mem_cons.1 hz with e1 | e1
    · subst e1
      have := h3 k hk x e
      cases hx : (stepI l s z).1 x with
      | none => exact absurd hx this
      | some d =>
        have h5 := i2 x d hx
        intro h6
        have h7 : (List.foldl (stepI l) (List.foldl (Q.stepK z) s l) level).1 x = none := h6
        rw [h5] at h7
        cases h7
    · exact i3 z e1 k hk x e

/-- what is known when the ids at distance n are about to be looked at -/
structure Lev (l : List S28) (b : ByteArray) (n : Nat) (fa : Far) (level : List ByteArray) : Prop where
  far : ∀ x d, fa x = some d ↔ ∃ m : Nat, m ≤ n ∧ d = (m : Int) ∧ Dist l b m x
  lev : ∀ x, x ∈ level ↔ Dist l b n x
theorem Lev.start (l : List S28) (b : ByteArray) : Lev l b 0 (far0 b) [b] := by
  have h0 : ∀ x, Dist l b 0 x ↔ x = b := fun x => ⟨fun h => h.1, fun h => ⟨h, fun m hm => by omega⟩⟩
  refine ⟨fun x d => ?_, fun x => by rw [h0]; simp⟩
  by_cases e : x = b
  · subst e
    have : far0 x x = some 0 := upd_same _ _ _
    rw [this]
    constructor
    · intro h; cases h; exact ⟨0, Nat.le_refl _, rfl, (h0 x).2 rfl⟩
    · rintro ⟨m, hm, rfl, _⟩
      have : m = 0 := by omega
      subst this
      rfl
  · have : far0 b x = none := upd_other _ _ e
    rw [this]
    constructor
    · intro h; cases h
    · rintro ⟨m, hm, _, hd⟩
      have : m = 0 := by omega
      subst this
      exact absurd ((h0 x).1 hd) e
theorem Lev.next {l : List S28} {b : ByteArray} {n : Nat} (hn : n ≤ 1000000000) {fa : Far} {level : List ByteArray} (h : Lev l b n fa level) :
    Lev l b (n + 1) (level.foldl (stepI l) (fa, [])).1 (level.foldl (stepI l) (fa, [])).2 ∧ Part l b n fa (level.foldl (stepI l) (fa, [])) := by
  obtain ⟨p, _, pr⟩ := Part.foldI hn level (fun y hy => ⟨(h.far y _).2 ⟨n, Nat.le_refl _, rfl, (h.lev y).1 hy⟩, ((h.lev y).1 hy).1⟩) (Part.start l b n fa)
  refine ⟨?_, p⟩
  generalize level.foldl (stepI l) (fa, []) = s at *
  have hlev : ∀ x, x ∈ s.2 ↔ Dist l b (n + 1) x := by
    intro x
    constructor
    · intro hx
      obtain ⟨h1, h2, h3⟩ := p.mem x hx
      refine ⟨h3, fun m hm hw => ?_⟩
      obtain ⟨q, hq, hd⟩ := walk_dist hw
      have := (h.far x q).2 ⟨q, by omega, rfl, hd⟩
      rw [h2] at this
      cases this
    · intro hx
      obtain ⟨y, hy, ha⟩ := hx.pred
      obtain ⟨k, hk, ho | ho⟩ := adj_other ha
      · have h1 := pr y ((h.lev y).2 hy) k hk x ho
        cases hs : s.1 x with
        | none => exact absurd hs h1
        | some d =>
          rcases p.new x d hs with h2 | ⟨_, h2⟩
          · obtain ⟨m, hm, _, hd⟩ := (h.far x d).1 h2
            have := hd.unique hx
            omega
          · exact h2
      · subst ho
        have := hy.unique hx
        omega
  refine ⟨fun x d => ?_, hlev⟩
  constructor
  · intro hx
    rcases p.new x d hx with h2 | ⟨h1, h2⟩
    · obtain ⟨m, hm, e, hd⟩ := (h.far x d).1 h2
      exact ⟨m, by omega, e, hd⟩
    · exact ⟨n + 1, Nat.le_refl _, h1, (hlev x).1 h2⟩
  · rintro ⟨m, hm, rfl, hd⟩
    by_cases e : m = n + 1
    · subst e
      exact (p.mem x ((hlev x).2 hd)).1
    · exact p.ext x _ ((h.far x _).2 ⟨m, by omega, rfl, hd⟩)

/-- told: the least number of links from b -/
def Told (l : List S28) (b : ByteArray) (far : Far) : Prop := ∀ x d, far x = some d ↔ ∃ m : Nat, d = (m : Int) ∧ Dist l b m x
theorem Lev.told {l : List S28} {b : ByteArray} {n : Nat} {fa : Far} (h : Lev l b n fa []) : Told l b fa := by
  have hno : ∀ m, n ≤ m → ∀ x, ¬ Dist l b m x := by
    intro m hm
    induction m with
    | zero =>
      intro x hd
      have : n = 0 := by omega
      subst this
      have := (h.lev x).2 hd
      cases this
    | succ m ih =>
      intro x hd
      by_cases e : n = m + 1
      · subst e
        have := (h.lev x).2 hd
        cases this
      · obtain ⟨y, hy, _⟩ := hd.pred
        exact ih (by omega) y hy
  intro x d
  rw [h.far]
  constructor
  · rintro ⟨m, _, h1, h2⟩; exact ⟨m, h1, h2⟩
  · rintro ⟨m, h1, h2⟩
    refine ⟨m, ?_, h1, h2⟩
    rcases Nat.lt_or_ge m n with e | e
    · omega
    · exact absurd h2 (hno m e x)

/-- how many of the ids are not told yet -/
noncomputable def open_ (U : List ByteArray) (fa : Far) : Nat := U.countP fun x => (fa x).isNone
theorem bfs_total (l : List S28) (b : ByteArray) : ∀ (f n : Nat) (fa : Far) (level : List ByteArray), Lev l b n fa level → Seen (b :: idsL l) (fa, level) → n + f ≤ 1000000000 → open_ (b :: idsL l) fa + 2 ≤ f →
    ∃ far, bfs l f fa level = some far ∧ Told l b far
  | 0, n, fa, level, _, _, _, h => by omega
  | f + 1, n, fa, level, hl, hs, hn, hf => by
    by_cases e : level = []
    · subst e
      exact ⟨fa, by simp [bfs], hl.told⟩
    · obtain ⟨hl2, hp⟩ := hl.next (by omega)
      have hs2 : Seen (b :: idsL l) (level.foldl (stepI l) (fa, [])) := Seen.foldI l (fun k hk => ⟨List.mem_cons_of_mem _ (mem_idsL hk).1, List.mem_cons_of_mem _ (mem_idsL hk).2⟩) level hs.reset
      have e2 : bfs l (f + 1) fa level = bfs l f (level.foldl (stepI l) (fa, [])).1 (level.foldl (stepI l) (fa, [])).2 := by simp [bfs, e]
      rw [e2]
      generalize level.foldl (stepI l) (fa, []) = s at *
      by_cases e3 : s.2 = []
      · obtain ⟨g, rfl⟩ : ∃ g, f = g + 1 := ⟨f - 1, by omega⟩
        rw [e3] at hl2
        exact ⟨s.1, by simp [bfs, e3], hl2.told⟩
      · refine bfs_total l b f (n + 1) s.1 s.2 hl2 hs2 (by omega) ?_
        obtain ⟨x, t, hx⟩ := List.exists_cons_of_ne_nil e3
        have hxm : x ∈ s.2 := by rw [hx]; simp
        obtain ⟨h1, h2, _⟩ := hp.mem x hxm
        have hxU : x ∈ b :: idsL l := hs2.dom x _ h1
        have hlt : open_ (b :: idsL l) s.1 < open_ (b :: idsL l) fa := by
          unfold open_
          have hle : ∀ q : List ByteArray, (q.countP fun x => (s.1 x).isNone) ≤ q.countP fun x => (fa x).isNone := fun q =>
            List.countP_mono_left (fun z _ hz => by
              cases hfz : fa z with
              | none => rfl
              | some d => rw [hp.ext z d hfz] at hz; cases hz)
          obtain ⟨u, v, huv⟩ := List.append_of_mem hxU
          rw [huv, List.countP_append, List.countP_append, List.countP_cons, List.countP_cons]
          have i1 := hle u
          have i2 := hle v
          rw [h1, h2]
          simp
          omega
        omega
theorem bfs_ok {l : List S28} (hl : l.length ≤ 1000000) (b : ByteArray) : ∃ far, bfs l (fuelL l) (far0 b) [b] = some far ∧ Told l b far := by
  refine bfs_total l b (fuelL l) 0 (far0 b) [b] (Lev.start l b) (seen_start l b) (by unfold fuelL; omega) ?_
  have : open_ (b :: idsL l) (far0 b) ≤ (b :: idsL l).length := List.countP_le_length
  have h2 : (idsL l).length = 2 * l.length := by
    clear this hl
    induction l with
    | nil => rfl
    | cons k l ih => simp [idsL] at ih ⊢; omega
  unfold fuelL
  simp at this
  omega
end Go.Proofs.Ytmhcpaohligjaaa.Q
