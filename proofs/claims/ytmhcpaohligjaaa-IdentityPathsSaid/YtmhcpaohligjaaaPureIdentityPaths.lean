/-
  IdentityPaths, as a statement over lists: a Path leads over different ids, and none of its links can be left out. No condition.
-/
import Derived.Test.YtmhcpaohligjaaaQ4
import Derived.Test.YtmhcpaohligjaaaE3
import Derived.Test.YtmhcpaohligjaaaT5
namespace Go.Proofs.Ytmhcpaohligjaaa.Pure
open Go.RowKit Go.Proofs.Ytmhcpaohligjaaa.Q Go.Proofs.YtmhcpaohligjaaaW.PrintWords Go.Proofs.YtmhcpaohligjaaaW.PrintLast Go.Proofs.YtmhcpaohligjaaaW.PrintMore
set_option linter.unusedVariables false
set_option linter.unusedSimpArgs false

theorem has_loop (l : List ByteArray) (x : ByteArray) (hl : l.length ≤ 1000) (hx : x ∉ l) (d : Nat) : ∀ i : Int, 0 ≤ i → i ≤ l.length → (l.length : Int) - i = d → Ev (fun k => flagstoneref1_Has.l0 k l x i) false := by
  induction d with
  | zero =>
    intro i h0 h1 hd
    refine Ev.step (f := fun _ => some false) (fun k => ?_) (Ev.now false)
    simp only [flagstoneref1_Has.l0]
    rw [if_neg (by omega)]
  | succ d ih =>
    intro i h0 h1 hd
    have hlt : i < (l.length : Int) := by omega
    have hne : ¬ (rdOf ByteArray.empty l i).toList = x.toList := fun e => hx (toList_inj e ▸ rdS_mem h0 hlt)
    refine Ev.step (fun k => ?_) (ih (i + 1) (by omega) (by omega) (by omega))
    simp only [flagstoneref1_Has.l0]
    rw [if_pos hlt, if_pos h0, if_neg hne, wrap_next h0 hlt (by omega)]
theorem has_false (l : List ByteArray) (x : ByteArray) (hl : l.length ≤ 1000) (hx : x ∉ l) : Ev (fun k => flagstoneref1_Has.f k l x) false := by
  refine Ev.congr (fun k => ?_) (has_loop l x hl hx l.length 0 (by omega) (by omega) (by omega))
  rfl

/-- a link of a path lies between two neighbouring distances -/
theorem path_ends {l : List S28} {far : Far} {b : ByteArray} : ∀ {n : Nat} {a : ByteArray} {p : List S28}, far a = some (n : Int) → PathOK l far b n a p → ∀ (j : Nat) (hj : j < p.length),
    (far p[j].f0 = some ((n - j : Nat) : Int) ∧ far p[j].f1 = some ((n - j - 1 : Nat) : Int)) ∨ (far p[j].f1 = some ((n - j : Nat) : Int) ∧ far p[j].f0 = some ((n - j - 1 : Nat) : Int))
  | 0, a, p, _, h, j, hj => by rw [h.2] at hj; simp at hj
  | n + 1, a, p, ha, h, j, hj => by
    obtain ⟨k, x, q, rfl, hk, ho, hx, _, h⟩ := h
    cases j with
    | zero =>
      simp only [List.getElem_cons_zero]
      unfold otherO at ho
      split at ho
      · rename_i e; cases ho; left; rw [← e]; exact ⟨ha, hx⟩
      · split at ho
        · rename_i e; cases ho; right; rw [← e]; exact ⟨ha, hx⟩
        · cases ho
    | succ j =>
      simp only [List.getElem_cons_succ]
      have := path_ends hx h j (by simp at hj; omega)
      have e1 : n + 1 - (j + 1) = n - j := by omega
      rw [e1]
      exact this
theorem path_mem {l : List S28} {far : Far} {b : ByteArray} : ∀ {n : Nat} {a : ByteArray} {p : List S28}, PathOK l far b n a p → ∀ k ∈ p, k ∈ l
  | 0, a, p, h, k, hk => by rw [h.2] at hk; cases hk
  | n + 1, a, p, h, k, hk => by
    obtain ⟨j, x, q, rfl, hj, _, _, _, h⟩ := h
    rcases List.mem_cons.1 hk with e | e
    · rw [e]; exact hj
    · exact path_mem h k e
/-- without one of its links a path's ends do not belong together -/
theorem path_cut {l : List S28} {far : Far} {b : ByteArray} (ht : Q.Told l b far) {n : Nat} {a : ByteArray} {p : List S28} (ha : far a = some (n : Int)) (h : PathOK l far b n a p) (i : Nat) (hi : i < p.length) :
    ¬ Conn (p.take i ++ p.drop (i + 1)) a b := by
  intro hc
  have hlen := h.length
  have hb : far b = some ((0 : Nat) : Int) := (told_zero ht).2 rfl
  let F : ByteArray → Prop := fun x => ∃ d : Nat, far x = some (d : Int) ∧ d ≤ n - i - 1
  have hlink : ∀ k ∈ p.take i ++ p.drop (i + 1), (F k.f0 ↔ F k.f1) := by
    intro k hk
    have hun : ∀ {x : ByteArray} {d : Nat}, far x = some (d : Int) → (F x ↔ d ≤ n - i - 1) := by
      intro x d hx
      constructor
      · rintro ⟨e, he, hle⟩
        rw [hx] at he
        injection he with he
        omega
      · intro hle; exact ⟨d, hx, hle⟩
    obtain ⟨j, hj, hji, rfl⟩ : ∃ j, ∃ hj : j < p.length, j ≠ i ∧ p[j] = k := by
      rcases List.mem_append.1 hk with hk | hk
      · obtain ⟨j, hj, rfl⟩ := List.getElem_of_mem hk
        simp at hj
        exact ⟨j, by omega, by omega, by simp⟩
      · obtain ⟨j, hj, rfl⟩ := List.getElem_of_mem hk
        simp at hj
        exact ⟨i + 1 + j, by omega, by omega, by simp⟩
    rcases path_ends ha h j hj with ⟨h1, h2⟩ | ⟨h1, h2⟩
    · rw [hun h1, hun h2]; omega
    · rw [hun h1, hun h2]; omega
  rw [conn_way] at hc
  have hF : ∀ x, Q.Way (p.take i ++ p.drop (i + 1)) a x → (F a ↔ F x) := by
    intro x hw
    induction hw with
    | start => exact Iff.rfl
    | step _ adj ih =>
      obtain ⟨k, hk, ⟨rfl, rfl⟩ | ⟨rfl, rfl⟩⟩ := adj
      · exact ih.trans (hlink k hk)
      · exact ih.trans (hlink k hk).symm
  have hFa : F a := (hF b hc).2 ⟨0, hb, by omega⟩
  obtain ⟨d, hd, hle⟩ := hFa
  rw [ha] at hd
  injection hd with hd
  omega

theorem cut_loop {l : List S28} {far : Far} {b : ByteArray} (ht : Q.Told l b far) {n : Nat} {a : ByteArray} {p : List S28} (ha : far a = some (n : Int)) (h : PathOK l far b n a p) (hm : Made l) (hp : p.length ≤ 1000) (hAa : okS a) (hAb : okS b) (d : Nat) :
    ∀ i : Int, 0 ≤ i → i ≤ p.length → (p.length : Int) - i = d → Ev (fun k => flagstonelaw26_IdentityPaths.l1 k a b p i) true := by
  induction d with
  | zero =>
    intro i h0 h1 hd
    refine Ev.step (f := fun _ => some true) (fun k => ?_) (Ev.now true)
    simp only [flagstonelaw26_IdentityPaths.l1]
    rw [if_neg (by omega)]
  | succ d ih =>
    intro i h0 h1 hd
    have hlt : i < (p.length : Int) := by omega
    have hw := wrap_next h0 hlt (by omega)
    have hc := path_cut ht ha h i.toNat (by omega)
    have e1 : (i + 1).toNat = i.toNat + 1 := by omega
    have hok : okA (p.take i.toNat ++ p.drop (i.toNat + 1)) := by
      refine ⟨by simp; omega, fun k hk => ?_⟩
      have hkp : k ∈ p := by
        rcases List.mem_append.1 hk with hk | hk
        · exact List.mem_of_mem_take hk
        · exact List.mem_of_mem_drop hk
      exact hm.okA.2 k (path_mem h k hkp)
    refine Ev.step (fun k => ?_) (ih (i + 1) (by omega) (by omega) (by omega))
    simp only [flagstonelaw26_IdentityPaths.l1, Option.bind_some]
    rw [if_pos hlt, if_pos h0, if_pos h1, if_pos (by simp; omega), hw, if_pos (by omega), if_pos (by omega), if_pos (by simp; omega), e1]
    simp only [List.nil_append]
    rw [same_f hok hAa hAb, sameB_false hc]
    simp only [Option.bind_some]
    simp
theorem walk_loop {l : List S28} {far : Far} {b : ByteArray} (ht : Q.Told l b far) {n : Nat} {a : ByteArray} {p : List S28} (ha : far a = some (n : Int)) (h : PathOK l far b n a p) (hm : Made l) (hp : p.length ≤ 500) (hAa : okS a) (hAb : okS b) (m : Nat) :
    ∀ (i : Nat) (v : ByteArray) (at_ : List ByteArray), i + m = n → at_.length = i + 1 → far v = some (m : Int) → PathOK l far b m v (p.drop i) → at_.getLast? = some v → (∀ x ∈ at_, ∃ d : Nat, far x = some (d : Int) ∧ m ≤ d) →
    Ev (fun k => flagstonelaw26_IdentityPaths.l0 k a b p at_ (i : Int)) true := by
  have hlen := h.length
  induction m with
  | zero =>
    intro i v at_ him hal hv hpo hlast hat
    have hvb := (told_zero ht).1 hv
    subst hvb
    have hw : wrap64 ((at_.length : Int) - 1) = (at_.length : Int) - 1 := by unfold wrap64; omega
    have hr : rdOf ByteArray.empty at_ ((at_.length : Int) - 1) = v := by
      unfold rdOf
      rw [List.getD_eq_getElem?_getD]
      have e : ((at_.length : Int) - 1).toNat = at_.length - 1 := by omega
      rw [e, ← List.getLast?_eq_getElem?, hlast]
      rfl
    refine Ev.step (fun k => ?_) (cut_loop ht ha h hm (by omega) hAa hAb p.length 0 (by omega) (by omega) (by omega))
    simp only [flagstonelaw26_IdentityPaths.l0]
    rw [if_neg (by omega), hw, if_pos (by omega), if_pos (by omega), hr, if_pos rfl]
  | succ m ih =>
    intro i v at_ him hal hv hpo hlast hat
    have hlt : (i : Int) < (p.length : Int) := by omega
    have hw : wrap64 ((at_.length : Int) - 1) = (at_.length : Int) - 1 := by unfold wrap64; omega
    have hw2 := wrap_next (i := (i : Int)) (n := p.length) (by omega) hlt (by omega)
    have hr : rdOf ByteArray.empty at_ ((at_.length : Int) - 1) = v := by
      unfold rdOf
      rw [List.getD_eq_getElem?_getD]
      have e : ((at_.length : Int) - 1).toNat = at_.length - 1 := by omega
      rw [e, ← List.getLast?_eq_getElem?, hlast]
      rfl
    obtain ⟨k, x, q, hq, hk, ho, hx, _, hpo⟩ := hpo
    have hd2 := drop_cons28 (l := p) (i := (i : Int)) (by omega) hlt
    have e2 : ((i : Int) + 1).toNat = i + 1 := by omega
    rw [Int.toNat_natCast, e2, hq] at hd2
    injection hd2 with hd2 hd3
    have hnx : x ∉ at_ := by
      intro hin
      obtain ⟨d, hd, hle⟩ := hat x hin
      rw [hx] at hd
      injection hd with hd
      omega
    have hgo := ih (i + 1) x (at_ ++ [x]) (by omega) (by simp; omega) hx (hd3 ▸ hpo) (by simp) (fun y hy => by
      rcases List.mem_append.1 hy with hy | hy
      · obtain ⟨d, hd, hle⟩ := hat y hy
        exact ⟨d, hd, by omega⟩
      · simp at hy
        exact ⟨m, by rw [hy]; exact hx, Nat.le_refl _⟩)
    rw [show (((i + 1 : Nat) : Int)) = (i : Int) + 1 by omega] at hgo
    have hhas := has_false at_ x (by omega) hnx
    unfold otherO at ho
    split at ho
    · rename_i e
      cases ho
      refine Ev.step (f := fun n => (flagstoneref1_Has.f n at_ k.f1).bind fun t191 => (if t191 = true then (none) else (if at_.length < 8796093022208 then (flagstonelaw26_IdentityPaths.l0 n a b p (at_ ++ [k.f1]) ((i : Int) + 1)) else (none)))) (fun n => ?_) (Ev.bind hhas ?_)
      · simp only [flagstonelaw26_IdentityPaths.l0]
        rw [if_pos hlt, hw, if_pos (by omega), if_pos (by omega), if_pos (by omega), hr, ← hd2, if_pos (by rw [e]), hw2]
      · simp only [Bool.false_eq_true, if_false]
        simp only [if_pos (show at_.length < 8796093022208 by omega)]
        exact hgo
    · rename_i e0
      split at ho
      · rename_i e
        cases ho
        refine Ev.step (f := fun n => (flagstoneref1_Has.f n at_ k.f0).bind fun t191 => (if t191 = true then (none) else (if at_.length < 8796093022208 then (flagstonelaw26_IdentityPaths.l0 n a b p (at_ ++ [k.f0]) ((i : Int) + 1)) else (none)))) (fun n => ?_) (Ev.bind hhas ?_)
        · simp only [flagstonelaw26_IdentityPaths.l0]
          rw [if_pos hlt, hw, if_pos (by omega), if_pos (by omega), if_pos (by omega), hr, ← hd2, if_neg (fun e3 => e0 (toList_inj e3).symm), if_pos (by rw [e]), hw2]
        · simp only [Bool.false_eq_true, if_false]
          simp only [if_pos (show at_.length < 8796093022208 by omega)]
          exact hgo
      · cases ho

theorem id_any (n : Int) (h0 : 0 ≤ n) : ∃ s, flagstonedata_Id.f n = some s ∧ s ∈ idsC := by
  have h1 : Int.tmod n 6 = n % 6 := Int.tmod_eq_emod_of_nonneg h0
  have h2 : 0 ≤ n % 6 ∧ n % 6 < 6 := ⟨Int.emod_nonneg _ (by omega), Int.emod_lt_of_pos _ (by omega)⟩
  refine ⟨idN (n % 6), ?_, idN_mem h2.1 h2.2⟩
  unfold flagstonedata_Id.f
  rw [ids_f]
  simp only [Option.bind_some]
  have h6 : (idsC.length : Int) = 6 := rfl
  rw [h6, if_neg (by omega), h1, if_pos h2.1, if_pos h2.2]
  rfl

theorem IdentityPaths : flagstonelaw26_IdentityPaths.Pure := by
  intro l0 a1 a2 _ _ hw ha1 ha2
  have b1 : 0 ≤ a1 ∧ a1 ≤ 255 := by simpa [Lit.wf, IntKind.min, IntKind.max, IntKind.signed, IntKind.bits] using ha1
  have b2 : 0 ≤ a2 ∧ a2 ≤ 255 := by simpa [Lit.wf, IntKind.min, IntKind.max, IntKind.signed, IntKind.bits] using ha2
  have w1 : wrap64 a1 = a1 := by unfold wrap64; omega
  have w2 : wrap64 a2 = a2 := by unfold wrap64; omega
  refine Ev.rounds ?_
  unfold flagstonelaw26_IdentityPaths.f
  refine Ev.bind awake_ev ?_
  simp only [if_true]
  by_cases h : (l0.length : Int) > 60
  · simp only [if_pos h]
    exact Ev.now true
  · simp only [if_neg h]
    obtain ⟨r, hr, hm⟩ := links_made (okU_of (by omega) hw) true
    obtain ⟨s, hs, hsm⟩ := id_any a1 b1.1
    obtain ⟨t, ht, htm⟩ := id_any a2 b2.1
    have hAs := idsC_ok s hsm
    have hAt := idsC_ok t htm
    rw [hr, w1, w2, hs, ht]
    simp only [Option.bind_some]
    have hlr : r.length ≤ 30 := hm.1
    obtain ⟨far, htold, hcase⟩ := path_ok (l := r) (by omega) s t
    have hpf : identity_Path.f r s t = pathF r s t := by
      unfold identity_Path.f
      rw [grd_pos ⟨hm.okA, hAs, hAt⟩]
      rfl
    rw [hpf, same_f hm.okA hAs hAt]
    rcases hcase with ⟨h1, h2, h3⟩ | ⟨n, p, h1, h2, h3, h4, h5⟩
    · rw [h3, sameB_false h2]
      simp only [Option.bind_some]
      exact Ev.now true
    · rw [h4, sameB_true h3]
      simp only [Option.bind_some]
      have hn := told_bound h2
      have hpl := h5.length
      have hgo := walk_loop htold h1 h5 hm (by omega) hAs hAt n 0 s [s] (by omega) (by simp) h1 (by simpa using h5) (by simp) (fun x hx => by
        simp at hx
        exact ⟨n, by rw [hx]; exact h1, Nat.le_refl _⟩)
      simpa using hgo
end Go.Proofs.Ytmhcpaohligjaaa.Pure
