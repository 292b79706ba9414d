/-
  What the references of chapter 26 come to: Has, insert, Members, Root, Same, Until, Forest. No condition.
-/
import Derived.Test.YtmhcpaohligjaaaE4
import Derived.Test.YtmhcpaohligjaaaQA
import Derived.Test.YtmhcpaohligjaaaT5
import Derived.Test.YtmhcpaohligjaaaQC
import Derived.Test.YtmhcpaohligjaaaQ10
namespace Go.Proofs.Ytmhcpaohligjaaa.Q
open Go.RowKit Go.Proofs.YtmhcpaohligjaaaW.PrintWords Go.Proofs.YtmhcpaohligjaaaW.PrintLast Go.Proofs.YtmhcpaohligjaaaW.PrintMore Go.Proofs.Ytmhcpaohligjaaa.M
set_option linter.unusedVariables false
set_option linter.unusedSimpArgs false

theorem drop_consS {l : List ByteArray} {i : Int} (h0 : 0 ≤ i) (h1 : i < (l.length : Int)) : l.drop i.toNat = rdOf ByteArray.empty l i :: l.drop (i + 1).toNat := by
  rw [List.drop_eq_getElem_cons (by omega), show (i + 1).toNat = i.toNat + 1 by omega]
  simp [rdOf, List.getD_eq_getElem?_getD, List.getElem?_eq_getElem (show i.toNat < l.length by omega)]
theorem take_snocS {l : List ByteArray} {i : Int} (h0 : 0 ≤ i) (h1 : i < (l.length : Int)) : l.take (i + 1).toNat = l.take i.toNat ++ [rdOf ByteArray.empty l i] := by
  rw [show (i + 1).toNat = i.toNat + 1 by omega, List.take_succ_eq_append_getElem (by omega)]
  simp [rdOf, List.getD_eq_getElem?_getD, List.getElem?_eq_getElem (show i.toNat < l.length by omega)]
theorem nodup_len {α : Type} [DecidableEq α] : ∀ {a b : List α}, a.Nodup → (∀ x ∈ a, x ∈ b) → a.length ≤ b.length
  | [], b, _, _ => by simp
  | x :: a, b, hn, hs => by
    have hx := hs x (by simp)
    obtain ⟨h1, h2⟩ := List.nodup_cons.1 hn
    have h3 := nodup_len (b := b.erase x) h2 (fun y hy => (List.mem_erase_of_ne (by rintro rfl; exact h1 hy)).2 (hs y (by simp [hy])))
    rw [List.length_erase_of_mem hx] at h3
    have h4 : 0 < b.length := List.length_pos_of_mem hx
    simp only [List.length_cons]
    omega
theorem asc_nodup {l : List ByteArray} (h : l.Pairwise ltS) : l.Nodup := by
  unfold List.Nodup
  exact h.imp (fun {a b} k => fun e => by subst e; exact ltS_irrefl _ k)
noncomputable instance decM (x : ByteArray) (l : List ByteArray) : Decidable (x ∈ l) := Classical.propDecidable _

theorem hasl_ev (l : List ByteArray) (x : ByteArray) (hl : l.length ≤ 100000) (d : Nat) : ∀ i : Int, 0 ≤ i → i ≤ (l.length : Int) → (l.length : Int) - i = d → Ev (fun k => flagstoneref1_Has.l0 k l x i) (decide (x ∈ l.drop i.toNat)) := by
  induction d with
  | zero =>
    intro i h0 h1 hd
    rw [List.drop_eq_nil_of_le (by omega)]
    refine Ev.step (f := fun _ => some false) (fun k => ?_) (by simpa using Ev.now false)
    simp only [flagstoneref1_Has.l0]
    rw [if_neg (by omega)]
  | succ d ih =>
    intro i h0 h1 hd
    have hlt : i < (l.length : Int) := by omega
    rw [drop_consS h0 hlt]
    by_cases e : rdOf ByteArray.empty l i = x
    · refine Ev.step (f := fun _ => some true) (fun k => ?_) (by simpa [e] using Ev.now true)
      simp only [flagstoneref1_Has.l0]
      rw [if_pos hlt, if_pos h0, if_pos (by rw [e])]
    · have h := ih (i + 1) (by omega) (by omega) (by omega)
      have e2 : decide (x ∈ rdOf ByteArray.empty l i :: l.drop (i + 1).toNat) = decide (x ∈ l.drop (i + 1).toNat) := by
        rw [decide_eq_decide]
        simp [Ne.symm e]
      rw [e2]
      refine Ev.step (fun k => ?_) h
      simp only [flagstoneref1_Has.l0]
      rw [if_pos hlt, if_pos h0, if_neg (fun h => e (toList_inj h)), wrap_next h0 hlt (by omega)]
theorem has_ev (l : List ByteArray) (x : ByteArray) (hl : l.length ≤ 100000) : Ev (fun k => flagstoneref1_Has.f k l x) (decide (x ∈ l)) :=
  Ev.congr (fun k => rfl) (hasl_ev l x hl l.length 0 (by omega) (by omega) (by omega))

/-- x put into the ascending list l that lacks it -/
structure Put (l : List ByteArray) (x : ByteArray) (r : List ByteArray) : Prop where
  asc : r.Pairwise ltS
  mem : ∀ y, y ∈ r ↔ y = x ∨ y ∈ l
  len : r.length = l.length + 1
theorem ins_ev {l : List ByteArray} {x : ByteArray} (hl : l.length ≤ 100000) (ha : l.Pairwise ltS) (hx : x ∉ l) (d : Nat) : ∀ i : Int, 0 ≤ i → i ≤ (l.length : Int) → (l.length : Int) - i = d → (∀ y ∈ l.take i.toNat, ltS y x) →
    ∃ r, Put l x r ∧ Ev (fun k => flagstoneref26_insert.l0 k l x i) r := by
  induction d with
  | zero =>
    intro i h0 h1 hd hb
    have hi : i = (l.length : Int) := by omega
    refine ⟨[] ++ l.take i.toNat ++ [x] ++ l.drop i.toNat, ?_, Ev.step (f := fun _ => some ([] ++ l.take i.toNat ++ [x] ++ l.drop i.toNat)) (fun k => ?_) (Ev.now _)⟩
    · have e1 : l.take i.toNat = l := List.take_of_length_le (by omega)
      have e2 : l.drop i.toNat = [] := List.drop_eq_nil_of_le (by omega)
      rw [e1] at hb
      rw [e1, e2]
      refine ⟨?_, fun y => by simp [or_comm], by simp⟩
      simp only [List.nil_append, List.append_nil]
      rw [List.pairwise_append]
      exact ⟨ha, by simp, fun a h b k => by simp at k; rw [k]; exact hb a h⟩
    · simp only [flagstoneref26_insert.l0, Option.bind_some]
      have hlt : (l.take i.toNat).length ≤ l.length := by simp; omega
      have hld : (l.drop i.toNat).length ≤ l.length := by simp
      rw [if_neg (by omega), if_pos h0, if_pos (by omega), if_pos (by simp; omega), if_pos (by simp; omega), if_pos (by simp; omega)]
  | succ d ih =>
    intro i h0 h1 hd hb
    have hlt : i < (l.length : Int) := by omega
    have hmem : rdOf ByteArray.empty l i ∈ l := rdS_mem h0 hlt
    by_cases hc : ltS (rdOf ByteArray.empty l i) x
    · obtain ⟨r, hr, he⟩ := ih (i + 1) (by omega) (by omega) (by omega) (fun y hy => by
        rw [take_snocS h0 hlt] at hy
        rcases List.mem_append.1 hy with e | e
        · exact hb y e
        · simp at e; rw [e]; exact hc)
      refine ⟨r, hr, Ev.step (fun k => ?_) he⟩
      simp only [flagstoneref26_insert.l0]
      rw [if_pos hlt, if_pos h0, if_pos (less_true hc), wrap_next h0 hlt (by omega)]
    · have hgt : ltS x (rdOf ByteArray.empty l i) := by
        rcases ltS_total x (rdOf ByteArray.empty l i) with h | h | h
        · exact h
        · exact absurd (h ▸ hmem) hx
        · exact absurd h hc
      refine ⟨[] ++ l.take i.toNat ++ [x] ++ l.drop i.toNat, ?_, Ev.step (f := fun _ => some ([] ++ l.take i.toNat ++ [x] ++ l.drop i.toNat)) (fun k => ?_) (Ev.now _)⟩
      · have hsplit := List.take_append_drop i.toNat l
        have hp : (l.take i.toNat ++ l.drop i.toNat).Pairwise ltS := by rw [hsplit]; exact ha
        rw [List.pairwise_append] at hp
        have hd2 : ∀ y ∈ l.drop i.toNat, ltS x y := by
          intro y hy
          have hpd := hp.2.1
          rw [drop_consS h0 hlt] at hy hpd
          rcases List.mem_cons.1 hy with e | e
          · rw [e]; exact hgt
          · exact ltS_trans hgt ((List.pairwise_cons.1 hpd).1 y e)
        refine ⟨?_, fun y => ?_, ?_⟩
        · simp only [List.nil_append, List.append_assoc]
          rw [List.pairwise_append]
          refine ⟨hp.1, ?_, ?_⟩
          · simp only [List.singleton_append, List.pairwise_cons]
            exact ⟨hd2, hp.2.1⟩
          · intro a h b k
            simp only [List.singleton_append, List.mem_cons] at k
            rcases k with e | e
            · rw [e]; exact hb a h
            · exact hp.2.2 a h b e
        · have : y ∈ l ↔ y ∈ l.take i.toNat ∨ y ∈ l.drop i.toNat := by rw [← List.mem_append, hsplit]
          rw [this]
          simp only [List.nil_append, List.mem_append, List.mem_singleton]
          constructor
          · rintro ((h | h) | h)
            · exact .inr (.inl h)
            · exact .inl h
            · exact .inr (.inr h)
          · rintro (h | h | h)
            · exact .inl (.inr h)
            · exact .inl (.inl h)
            · exact .inr h
        · simp
          omega
      · simp only [flagstoneref26_insert.l0, Option.bind_some]
        have hlt2 : (l.take i.toNat).length ≤ l.length := by simp; omega
        have hld : (l.drop i.toNat).length ≤ l.length := by simp
        rw [if_pos hlt, if_pos h0, less_false hc]
        simp only [Bool.false_eq_true, if_false]
        rw [if_pos (by omega), if_pos (by simp; omega), if_pos (by simp; omega), if_pos (by simp; omega)]
theorem insert_ev {l : List ByteArray} {x : ByteArray} (hl : l.length ≤ 100000) (ha : l.Pairwise ltS) (hx : x ∉ l) : ∃ r, Put l x r ∧ Ev (fun k => flagstoneref26_insert.f k l x) r := by
  obtain ⟨r, hr, he⟩ := ins_ev hl ha hx l.length 0 (by omega) (by omega) (by omega) (by simp)
  exact ⟨r, hr, Ev.congr (fun k => rfl) he⟩

/-- out: some of the members of a, in ascending order, a among them -/
structure Some_ (l : List S28) (a : ByteArray) (out : List ByteArray) : Prop where
  asc : out.Pairwise ltS
  sub : ∀ x ∈ out, Conn l x a
  has : a ∈ out
theorem Some_.len {l : List S28} {a : ByteArray} {out : List ByteArray} (h : Some_ l a out) : out.length ≤ (members l a).length :=
  nodup_len (asc_nodup h.asc) (fun x hx => mem_members.2 (h.sub x hx))
theorem Some_.all {l : List S28} {a : ByteArray} {out : List ByteArray} (h : Some_ l a out) (hc : ∀ k ∈ l, (k.f0 ∈ out ↔ k.f1 ∈ out)) : out = members l a := by
  refine sorted_ext h.asc (members_sorted l a) (fun x => ⟨fun hx => mem_members.2 (h.sub x hx), fun hx => ?_⟩)
  have hw := (conn_way l a x).1 (mem_members.1 hx).symm
  induction hw with
  | start => exact h.has
  | step hw adj ih =>
    have hy := ih (mem_members.2 ((conn_way l a _).2 hw).symm)
    obtain ⟨k, hk, ⟨rfl, rfl⟩ | ⟨rfl, rfl⟩⟩ := adj
    · exact (hc k hk).1 hy
    · exact (hc k hk).2 hy
theorem Some_.put {l : List S28} {a x : ByteArray} {out r : List ByteArray} (h : Some_ l a out) (hp : Put out x r) (hx : Conn l x a) : Some_ l a r :=
  ⟨hp.asc, fun y hy => by rcases (hp.mem y).1 hy with e | e; exact e ▸ hx; exact h.sub y e, (hp.mem a).2 (.inr h.has)⟩

theorem mem_in {l : List S28} {a : ByteArray} (hl : l.length ≤ 100) (out0 : List ByteArray) (hrec : ∀ out, Some_ l a out → out0.length < out.length → Ev (fun k => flagstoneref26_Members.l0 k l out true) (members l a)) (d : Nat) :
    ∀ (i : Int) (out : List ByteArray) (b : Bool), 0 ≤ i → i ≤ (l.length : Int) → (l.length : Int) - i = d → Some_ l a out → (b = true → out0.length < out.length) → out0.length ≤ out.length → (b = false → ∀ k ∈ l.take i.toNat, (k.f0 ∈ out ↔ k.f1 ∈ out)) →
    Ev (fun k => flagstoneref26_Members.l1 k l out b i) (members l a) := by
  have hml := members_length hl a
  induction d with
  | zero =>
    intro i out b h0 h1 hd hs ht hle hf
    cases b with
    | true =>
      refine Ev.step (fun k => ?_) (hrec out hs (ht rfl))
      simp only [flagstoneref26_Members.l1]
      rw [if_neg (by omega)]
    | false =>
      have he : out = members l a := hs.all (fun k hk => hf rfl k (by rw [List.take_of_length_le (by omega)]; exact hk))
      refine Ev.step (f := fun k => flagstoneref26_Members.l0 k l out false) (fun k => ?_) (Ev.step (f := fun _ => some (members l a)) (fun k => ?_) (Ev.now _))
      · simp only [flagstoneref26_Members.l1]
        rw [if_neg (by omega)]
      · simp only [flagstoneref26_Members.l0]
        rw [if_neg (by simp), he]
  | succ d ih =>
    intro i out b h0 h1 hd hs ht hle hf
    have hlt : i < (l.length : Int) := by omega
    have hk := rd_memI h0 hlt
    have hcl := conn_link hk
    have hw := wrap_next h0 hlt (by omega)
    have hol : out.length ≤ 100000 := by have := hs.len; omega
    have htk : ∀ k, k ∈ l.take (i + 1).toNat ↔ k ∈ l.take i.toNat ∨ k = rd_T28 l i := fun k => by
      rw [show (i + 1).toNat = i.toNat + 1 by omega, take_snoc28 (by omega), ← rd_nat h0]
      simp
    generalize hkk : rd_T28 l i = k0 at *
    have hb0 := has_ev out k0.f0 hol
    have hb1 := has_ev out k0.f1 hol
    refine Ev.step (f := fun k => (flagstoneref1_Has.f k out k0.f0).bind fun t381 => ((flagstoneref1_Has.f k out k0.f1).bind fun t383 => (if (t381 == t383) = true then (flagstoneref26_Members.l1 k l out b (i + 1)) else (if t381 = true then ((flagstoneref26_insert.f k out k0.f1).bind fun t386 => (flagstoneref26_Members.l1 k l t386 true (i + 1))) else ((flagstoneref26_insert.f k out k0.f0).bind fun t389 => (flagstoneref26_Members.l1 k l t389 true (i + 1))))))) (fun k => ?_) (Ev.bind hb0 (Ev.bind hb1 ?_))
    · simp only [flagstoneref26_Members.l1]
      rw [if_pos hlt, if_pos h0, hkk, hw]
    · by_cases m0 : k0.f0 ∈ out <;> by_cases m1 : k0.f1 ∈ out
      · simp only [m0, m1, decide_true, beq_self_eq_true, if_true]
        exact ih (i + 1) out b (by omega) (by omega) (by omega) hs ht hle (fun e k hk => by
          rcases (htk k).1 hk with h | h
          · exact hf e k h
          · rw [h]; exact ⟨fun _ => m1, fun _ => m0⟩)
      · obtain ⟨r, hr, he⟩ := insert_ev hol hs.asc m1
        have hs2 := hs.put hr (hcl.symm.trans (hs.sub _ m0))
        simp only [m0, m1, decide_true, decide_false, if_true]
        have h2 := ih (i + 1) r true (by omega) (by omega) (by omega) hs2 (fun _ => by rw [hr.len]; omega) (by rw [hr.len]; omega) (fun e => by cases e)
        exact Ev.bind he h2
      · obtain ⟨r, hr, he⟩ := insert_ev hol hs.asc m0
        have hs2 := hs.put hr (hcl.trans (hs.sub _ m1))
        simp only [m0, m1, decide_true, decide_false, if_true]
        have h2 := ih (i + 1) r true (by omega) (by omega) (by omega) hs2 (fun _ => by rw [hr.len]; omega) (by rw [hr.len]; omega) (fun e => by cases e)
        exact Ev.bind he h2
      · simp only [m0, m1, decide_false, beq_self_eq_true, if_true]
        exact ih (i + 1) out b (by omega) (by omega) (by omega) hs ht hle (fun e k hk => by
          rcases (htk k).1 hk with h | h
          · exact hf e k h
          · rw [h]; exact ⟨fun h => absurd h m0, fun h => absurd h m1⟩)
theorem mem_run {l : List S28} {a : ByteArray} (hl : l.length ≤ 100) (n : Nat) : ∀ out, Some_ l a out → (members l a).length ≤ out.length + n → Ev (fun k => flagstoneref26_Members.l0 k l out true) (members l a) := by
  induction n with
  | zero =>
    intro out hs hn
    refine Ev.step (fun k => ?_) (mem_in hl out (fun o ho hlt => ?_) l.length 0 out false (by omega) (by omega) (by omega) hs (fun e => by cases e) (Nat.le_refl _) (fun _ k hk => by simp at hk))
    · simp only [flagstoneref26_Members.l0, if_true]
    · have := ho.len; omega
  | succ n ih =>
    intro out hs hn
    refine Ev.step (fun k => ?_) (mem_in hl out (fun o ho hlt => ih o ho (by omega)) l.length 0 out false (by omega) (by omega) (by omega) hs (fun e => by cases e) (Nat.le_refl _) (fun _ k hk => by simp at hk))
    simp only [flagstoneref26_Members.l0, if_true]
theorem rmembers_ev {l : List S28} (hl : l.length ≤ 100) (a : ByteArray) : Ev (fun k => flagstoneref26_Members.f k l a) (members l a) :=
  Ev.congr (fun k => rfl) (mem_run hl (members l a).length [a] ⟨by simp, fun x hx => by simp at hx; rw [hx]; exact Conn.refl _ _, by simp⟩ (by omega))
theorem rroot_ev {l : List S28} (hl : l.length ≤ 100) (a : ByteArray) : Ev (fun k => flagstoneref26_Root.f k l a) (rootL l a) := by
  obtain ⟨hz0, hz⟩ := members_zero l a
  unfold flagstoneref26_Root.f
  refine Ev.bind (rmembers_ev hl a) ?_
  simp only [if_pos (show (0 : Int) < ((members l a).length : Int) by omega), hz]
  exact Ev.now _
theorem rsame_ev {l : List S28} (hl : l.length ≤ 100) (a b : ByteArray) : Ev (fun k => flagstoneref26_Same.f k l a b) (sameB (rootL l a) (rootL l b)) := by
  have hml := members_length hl a
  have e : sameB (rootL l a) (rootL l b) = decide (b ∈ members l a) := by
    unfold sameB
    rw [decide_eq_decide, mem_members]
    exact ⟨fun h => Eq.symm h, fun h => Eq.symm h⟩
  unfold flagstoneref26_Same.f
  rw [e]
  exact Ev.bind (rmembers_ev hl a) (Ev.bind (has_ev _ b (by omega)) (Ev.now _))
theorem runtil_loop (l : List S28) (t : Int) (hl : l.length ≤ 1000) (d : Nat) : ∀ (i : Int), 0 ≤ i → i ≤ l.length → (l.length : Int) - i = d → Ev (fun k => flagstoneref26_Until.l0 k l t ((l.take i.toNat).filter fun k => decide (k.f2 ≤ t)) i) (l.filter fun k => decide (k.f2 ≤ t)) := by
  induction d with
  | zero =>
    intro i h0 h1 hd
    have hi : i = (l.length : Int) := by omega
    refine Ev.step (f := fun _ => some (l.filter fun k => decide (k.f2 ≤ t))) (fun k => ?_) (Ev.now _)
    simp only [flagstoneref26_Until.l0]
    rw [if_neg (by omega), hi, Int.toNat_natCast, List.take_length]
  | succ d ih =>
    intro i h0 h1 hd
    have hlt : i < (l.length : Int) := by omega
    have hw : wrap64 (i + 1) = i + 1 := by unfold wrap64; omega
    have ht : (i + 1).toNat = i.toNat + 1 := by omega
    have htk : l.take (i + 1).toNat = l.take i.toNat ++ [rd_T28 l i] := by rw [ht, take_snoc28 (by omega), ← rd_nat h0]
    have hlen : ((l.take i.toNat).filter fun k => decide (k.f2 ≤ t)).length ≤ 1000 := by
      have h1 := List.length_filter_le (fun k : S28 => decide (k.f2 ≤ t)) (l.take i.toNat)
      simp at h1 ⊢
      omega
    refine Ev.step (f := fun k => flagstoneref26_Until.l0 k l t ((l.take (i + 1).toNat).filter fun k => decide (k.f2 ≤ t)) (i + 1)) (fun k => ?_) (ih (i + 1) (by omega) (by omega) (by omega))
    simp only [flagstoneref26_Until.l0]
    rw [if_pos hlt, if_pos h0, hw, htk, List.filter_append]
    by_cases hc : (rd_T28 l i).f2 ≤ t
    · rw [if_pos hc, if_pos (by omega)]
      simp [List.filter_cons, hc]
    · rw [if_neg hc]
      simp [List.filter_cons, hc]
theorem runtil_ev (l : List S28) (t : Int) (hl : l.length ≤ 1000) : Ev (fun k => flagstoneref26_Until.f k l t) (l.filter fun k => decide (k.f2 ≤ t)) :=
  Ev.congr (fun k => by simp [flagstoneref26_Until.f]) (runtil_loop l t hl l.length 0 (by omega) (by omega) (by omega))
theorem rforest_loop {l : List S28} (hl : l.length ≤ 100) (d : Nat) : ∀ (i : Int), 0 ≤ i → i ≤ l.length → (l.length : Int) - i = d → Ev (fun k => flagstoneref26_Forest.l0 k l (forest (l.take i.toNat)) i) (forest l) := by
  induction d with
  | zero =>
    intro i h0 h1 hd
    have hi : i = (l.length : Int) := by omega
    refine Ev.step (f := fun _ => some (forest l)) (fun k => ?_) (Ev.now _)
    simp only [flagstoneref26_Forest.l0]
    rw [if_neg (by omega), hi, Int.toNat_natCast, List.take_length]
  | succ d ih =>
    intro i h0 h1 hd
    have hlt : i < (l.length : Int) := by omega
    have hw := wrap_next h0 hlt (by omega)
    have hfl : (forest (l.take i.toNat)).length ≤ 100 := Nat.le_trans (forestL_length _ _) (by simp; omega)
    have hs := rsame_ev hfl (rd_T28 l i).f0 (rd_T28 l i).f1
    rw [forest_root, forest_root] at hs
    have hn := forest_next h0 hlt
    have hih := ih (i + 1) (by omega) (by omega) (by omega)
    refine Ev.step (f := fun k => (flagstoneref26_Same.f k (forest (l.take i.toNat)) ((rd_T28 l i).f0) ((rd_T28 l i).f1)).bind fun t448 => (if t448 = true then (flagstoneref26_Forest.l0 k l (forest (l.take i.toNat)) (i + 1)) else (flagstoneref26_Forest.l0 k l (forest (l.take i.toNat) ++ [rd_T28 l i]) (i + 1)))) (fun k => ?_) (Ev.bind hs ?_)
    · simp only [flagstoneref26_Forest.l0]
      rw [if_pos hlt, if_pos h0, hw]
      simp only [if_pos (show (forest (l.take i.toNat)).length < 3518437208883 by omega)]
    · have e1 : forest (l.take (i + 1).toNat) = forest (l.take i.toNat) ++ if rootL (l.take i.toNat) (rd_T28 l i).f0 = rootL (l.take i.toNat) (rd_T28 l i).f1 then [] else [rd_T28 l i] := hn
      by_cases e : rootL (l.take i.toNat) (rd_T28 l i).f0 = rootL (l.take i.toNat) (rd_T28 l i).f1
      · rw [if_pos e, List.append_nil] at e1
        rw [e1] at hih
        rw [sameB_true e]
        simp only [if_true]
        exact hih
      · rw [if_neg e] at e1
        rw [e1] at hih
        rw [sameB_false e]
        simp only [Bool.false_eq_true, if_false]
        exact hih
theorem rforest_ev {l : List S28} (hl : l.length ≤ 100) : Ev (fun k => flagstoneref26_Forest.f k l) (forest l) :=
  Ev.congr (fun k => rfl) (rforest_loop hl l.length 0 (by omega) (by omega) (by omega))
end Go.Proofs.Ytmhcpaohligjaaa.Q

namespace Go.Proofs.Ytmhcpaohligjaaa.Q
open Go.RowKit Go.Proofs.YtmhcpaohligjaaaW.PrintWords Go.Proofs.YtmhcpaohligjaaaW.PrintLast Go.Proofs.Ytmhcpaohligjaaa.M
set_option linter.unusedVariables false
set_option linter.unusedSimpArgs false

theorem walk_front {l : List S28} {b y : ByteArray} (ha : Adj l b y) : ∀ {n : Nat} {x : ByteArray}, WalkN l y n x → WalkN l b (n + 1) x
  | 0, x, h => by cases h; exact ⟨b, rfl, ha⟩
  | n + 1, x, h => by
    obtain ⟨z, hz, haz⟩ := h
    exact ⟨z, walk_front ha hz, haz⟩
theorem walk_symm {l : List S28} {b : ByteArray} : ∀ {n : Nat} {x : ByteArray}, WalkN l b n x → WalkN l x n b
  | 0, x, h => by cases h; rfl
  | n + 1, x, h => by
    obtain ⟨z, hz, haz⟩ := h
    exact walk_front haz.symm (walk_symm hz)
theorem Dist.symm {l : List S28} {a b : ByteArray} {n : Nat} (h : Dist l a n b) : Dist l b n a :=
  ⟨walk_symm h.1, fun m hm hw => h.2 m hm (walk_symm hw)⟩

/-- all that at most n links lead to -/
def Within (l : List S28) (a : ByteArray) (n : Nat) (x : ByteArray) : Prop := ∃ m, m ≤ n ∧ WalkN l a m x
theorem within_succ {l : List S28} {a x : ByteArray} {n : Nat} : Within l a (n + 1) x ↔ Within l a n x ∨ ∃ y, Within l a n y ∧ Adj l y x := by
  constructor
  · rintro ⟨m, hm, hw⟩
    by_cases e : m ≤ n
    · exact .inl ⟨m, e, hw⟩
    · have : m = n + 1 := by omega
      subst this
      obtain ⟨y, hy, ha⟩ := hw
      exact .inr ⟨y, ⟨n, Nat.le_refl _, hy⟩, ha⟩
  · rintro (⟨m, hm, hw⟩ | ⟨y, ⟨m, hm, hw⟩, ha⟩)
    · exact ⟨m, by omega, hw⟩
    · exact ⟨m + 1, by omega, y, hw, ha⟩
theorem within_way {l : List S28} {a x : ByteArray} {n : Nat} (h : Within l a n x) : Conn l a x := (conn_way _ _ _).2 (walk_way h.choose_spec.2)
structure Got (l : List S28) (a : ByteArray) (n : Nat) (r : List ByteArray) : Prop where
  nod : r.Nodup
  mem : ∀ x, x ∈ r ↔ Within l a n x
theorem Got.len {l : List S28} {a : ByteArray} {n : Nat} {r : List ByteArray} (h : Got l a n r) : r.length ≤ (members l a).length :=
  nodup_len h.nod (fun x hx => mem_members.2 (within_way ((h.mem x).1 hx)).symm)
/-- half way through the links -/
structure Half (l : List S28) (r : List ByteArray) (i : Nat) (more : List ByteArray) : Prop where
  nod : more.Nodup
  pre : ∃ q, more = r ++ q
  sub : ∀ x ∈ more, x ∈ r ∨ ∃ y ∈ r, Adj l y x
  cov : ∀ k ∈ l.take i, (k.f0 ∈ r → k.f1 ∈ more) ∧ (k.f1 ∈ r → k.f0 ∈ more)
theorem Half.add {l : List S28} {r : List ByteArray} {i : Nat} {more : List ByteArray} (h : Half l r i more) {x : ByteArray} (hx : x ∉ more) {y : ByteArray} (hy : y ∈ r) (ha : Adj l y x) : Half l r i (more ++ [x]) := by
  obtain ⟨q, hq⟩ := h.pre
  refine ⟨?_, ⟨q ++ [x], by rw [hq, List.append_assoc]⟩, fun z hz => ?_, fun k hk => ?_⟩
  · rw [List.nodup_append]
    refine ⟨h.nod, by simp, fun p hp q hq => ?_⟩
    simp at hq
    rintro rfl
    exact hx (hq ▸ hp)
  · rcases List.mem_append.1 hz with e | e
    · exact h.sub z e
    · simp at e; rw [e]; exact .inr ⟨y, hy, ha⟩
  · exact ⟨fun e => List.mem_append_left _ ((h.cov k hk).1 e), fun e => List.mem_append_left _ ((h.cov k hk).2 e)⟩
theorem Half.len {l : List S28} {a : ByteArray} {n : Nat} {r more : List ByteArray} {i : Nat} (h : Half l r i more) (g : Got l a n r) : more.length ≤ (members l a).length :=
  nodup_len h.nod (fun x hx => mem_members.2 (by
    rcases h.sub x hx with e | ⟨y, hy, ha⟩
    · exact (within_way ((g.mem x).1 e)).symm
    · exact (within_way (within_succ.2 (.inr ⟨y, (g.mem y).1 hy, ha⟩))).symm))

/-- the answer: how many links lead from a to b, -1 without a way -/
def Ans (l : List S28) (a b : ByteArray) (d : Int) : Prop := (∃ n : Nat, d = (n : Int) ∧ Dist l a n b) ∨ (d = -1 ∧ ¬ Conn l a b)

theorem dist_in {l : List S28} {a b : ByteArray} (hl : l.length ≤ 100) {n : Nat} (hn : n ≤ 10000) {r : List ByteArray} (g : Got l a n r) (hb : b ∉ r) {d0 : Int}
    (hstop : (∀ k ∈ l, (k.f0 ∈ r ↔ k.f1 ∈ r)) → d0 = -1) (hrec : ∀ more, Got l a (n + 1) more → r.length < more.length → Ev (fun k => flagstoneref26_distance.l0 k l b more ((n + 1 : Nat) : Int)) d0) (d : Nat) :
    ∀ (i : Int) (more : List ByteArray), 0 ≤ i → i ≤ (l.length : Int) → (l.length : Int) - i = d → Half l r i.toNat more → Ev (fun k => flagstoneref26_distance.l1 k l b r (n : Int) more i) d0 := by
  have hml := members_length hl a
  have hrl := g.len
  induction d with
  | zero =>
    intro i more h0 h1 hd h
    have hi : i = (l.length : Int) := by omega
    obtain ⟨q, hq⟩ := h.pre
    have hcov : ∀ k ∈ l, (k.f0 ∈ r → k.f1 ∈ more) ∧ (k.f1 ∈ r → k.f0 ∈ more) := fun k hk => h.cov k (by rw [List.take_of_length_le (by omega)]; exact hk)
    by_cases e : (more.length : Int) = (r.length : Int)
    · have hq0 : more = r := by
        have : q.length = 0 := by rw [hq] at e; simp at e; omega
        rw [hq, List.eq_nil_of_length_eq_zero this, List.append_nil]
      rw [hq0] at hcov
      rw [hstop (fun k hk => ⟨(hcov k hk).1, (hcov k hk).2⟩)]
      refine Ev.step (f := fun _ => some (-1)) (fun k => ?_) (Ev.now _)
      simp only [flagstoneref26_distance.l1]
      rw [if_neg (by omega), if_pos e]
    · have hw : wrap64 ((n : Int) + 1) = ((n + 1 : Nat) : Int) := by unfold wrap64; omega
      refine Ev.step (fun k => ?_) (hrec more ⟨h.nod, fun x => ?_⟩ (by rw [hq] at e ⊢; simp at e ⊢; omega))
      · simp only [flagstoneref26_distance.l1]
        rw [if_neg (by omega), if_neg e, hw]
      · rw [within_succ]
        constructor
        · intro hx
          rcases h.sub x hx with e | ⟨y, hy, ha⟩
          · exact .inl ((g.mem x).1 e)
          · exact .inr ⟨y, (g.mem y).1 hy, ha⟩
        · rintro (hx | ⟨y, hy, ha⟩)
          · rw [hq]; exact List.mem_append_left _ ((g.mem x).2 hx)
          · have hy2 := (g.mem y).2 hy
            obtain ⟨k, hk, ⟨rfl, rfl⟩ | ⟨rfl, rfl⟩⟩ := ha
            · exact (hcov k hk).1 hy2
            · exact (hcov k hk).2 hy2
  | succ d ih =>
    intro i more h0 h1 hd h
    have hlt : i < (l.length : Int) := by omega
    have hk := rd_memI h0 hlt
    have hw := wrap_next h0 hlt (by omega)
    have htk : ∀ k, k ∈ l.take (i + 1).toNat ↔ k ∈ l.take i.toNat ∨ k = rd_T28 l i := fun k => by
      rw [show (i + 1).toNat = i.toNat + 1 by omega, take_snoc28 (by omega), ← rd_nat h0]
      simp
    generalize hkk : rd_T28 l i = k0 at *
    have had : Adj l k0.f0 k0.f1 := Adj.of_mem hk
    -- the second half of the round
    have second : ∀ m2, Half l r i.toNat m2 → (k0.f0 ∈ r → k0.f1 ∈ m2) → Ev (fun k => flagstoneref26_distance.j3 k l b r (n : Int) m2 i) d0 := by
      intro m2 h2 hc
      have hm2 := h2.len g
      have fin : ∀ m3, Half l r i.toNat m3 → (k0.f0 ∈ r → k0.f1 ∈ m3) → (k0.f1 ∈ r → k0.f0 ∈ m3) → Ev (fun k => flagstoneref26_distance.l1 k l b r (n : Int) m3 (i + 1)) d0 := by
        intro m3 h3 c1 c2
        refine ih (i + 1) m3 (by omega) (by omega) (by omega) ⟨h3.nod, h3.pre, h3.sub, fun k hkm => ?_⟩
        rcases (htk k).1 hkm with e | e
        · exact h3.cov k e
        · rw [e]; exact ⟨c1, c2⟩
      refine Ev.step (f := fun k => (flagstoneref1_Has.f k r k0.f1).bind fun t415 => (if t415 = true then ((flagstoneref1_Has.f k m2 k0.f0).bind fun t417 => (if t417 = true then (flagstoneref26_distance.l1 k l b r (n : Int) m2 (i + 1)) else (flagstoneref26_distance.l1 k l b r (n : Int) (m2 ++ [k0.f0]) (i + 1)))) else (flagstoneref26_distance.l1 k l b r (n : Int) m2 (i + 1)))) (fun k => ?_) (Ev.bind (has_ev r k0.f1 (by omega)) ?_)
      · simp only [flagstoneref26_distance.j3]
        rw [if_pos h0, if_pos hlt, hkk, hw]
        simp only [if_pos (show m2.length < 8796093022208 by omega)]
      · by_cases c1 : k0.f1 ∈ r
        · simp only [c1, decide_true, if_true]
          refine Ev.bind (has_ev m2 k0.f0 (by omega)) ?_
          by_cases c0 : k0.f0 ∈ m2
          · simp only [c0, decide_true, if_true]
            exact fin m2 h2 hc (fun _ => c0)
          · simp only [c0, decide_false, Bool.false_eq_true, if_false]
            exact fin _ (h2.add c0 c1 had.symm) (fun e => List.mem_append_left _ (hc e)) (fun _ => by simp)
        · simp only [c1, decide_false, Bool.false_eq_true, if_false]
          exact fin m2 h2 hc (fun e => absurd e c1)
    have hm := h.len g
    have first : ∀ x44 : Bool, (x44 = true → k0.f0 ∈ r ∧ k0.f1 ∉ more) → (x44 = false → k0.f0 ∈ r → k0.f1 ∈ more) → Ev (fun k => flagstoneref26_distance.j2 k l b r (n : Int) more i x44) d0 := by
      intro x44 ht hf
      cases x44 with
      | true =>
        refine Ev.step (fun k => ?_) (second (more ++ [k0.f1]) (h.add (ht rfl).2 (ht rfl).1 had) (fun _ => by simp))
        simp only [flagstoneref26_distance.j2, if_true]
        rw [if_pos h0, if_pos hlt, if_pos (by omega), hkk]
      | false =>
        refine Ev.step (fun k => ?_) (second more h (hf rfl))
        simp only [flagstoneref26_distance.j2]
        rw [if_neg (by simp)]
    refine Ev.step (f := fun k => (flagstoneref1_Has.f k r k0.f0).bind fun t407 => (if t407 = true then ((flagstoneref1_Has.f k more k0.f1).bind fun t409 => (flagstoneref26_distance.j2 k l b r (n : Int) more i (!t409))) else (flagstoneref26_distance.j2 k l b r (n : Int) more i false))) (fun k => ?_) (Ev.bind (has_ev r k0.f0 (by omega)) ?_)
    · simp only [flagstoneref26_distance.l1]
      rw [if_pos hlt, if_pos h0, hkk]
    · by_cases c0 : k0.f0 ∈ r
      · simp only [c0, decide_true, if_true]
        refine Ev.bind (has_ev more k0.f1 (by omega)) (first _ ?_ ?_)
        · intro e; simp at e; exact ⟨c0, e⟩
        · intro e _; simpa using e
      · simp only [c0, decide_false, Bool.false_eq_true, if_false]
        exact first false (fun e => by cases e) (fun _ e => absurd e c0)

theorem dist_run {l : List S28} {a b : ByteArray} (hl : l.length ≤ 100) {d0 : Int} (hans : Ans l a b d0) (f : Nat) : ∀ (n : Nat) (r : List ByteArray), n + f ≤ 10000 → Got l a n r → (members l a).length ≤ r.length + f → (∀ m, m < n → ¬ WalkN l a m b) →
    Ev (fun k => flagstoneref26_distance.l0 k l b r (n : Int)) d0 := by
  have hml := members_length hl a
  have main : ∀ (n : Nat) (r : List ByteArray), n ≤ 10000 → Got l a n r → (∀ m, m < n → ¬ WalkN l a m b) → (∀ more, Got l a (n + 1) more → r.length < more.length → (∀ m, m < n + 1 → ¬ WalkN l a m b) → Ev (fun k => flagstoneref26_distance.l0 k l b more ((n + 1 : Nat) : Int)) d0) → Ev (fun k => flagstoneref26_distance.l0 k l b r (n : Int)) d0 := by
    intro n r hn g hno hrec
    have hrl := g.len
    refine Ev.step (f := fun k => (flagstoneref1_Has.f k r b).bind fun t399 => (if t399 = true then (some (n : Int)) else (flagstoneref26_distance.l1 k l b r (n : Int) r 0))) (fun k => ?_) (Ev.bind (has_ev r b (by omega)) ?_)
    · simp only [flagstoneref26_distance.l0, Option.bind_some, List.nil_append]
      simp only [if_pos (show ([] : List ByteArray).length + r.length < 8796093022208 by simp; omega)]
    · by_cases hb : b ∈ r
      · simp only [hb, decide_true, if_true]
        obtain ⟨m, hm, hw⟩ := (g.mem b).1 hb
        have hmn : m = n := by
          rcases Nat.lt_or_ge m n with h | h
          · exact absurd hw (hno m h)
          · omega
        subst hmn
        have hd : Dist l a m b := ⟨hw, hno⟩
        rcases hans with ⟨n2, e, hd2⟩ | ⟨_, hc⟩
        · rw [e, hd2.unique hd]; exact Ev.now _
        · exact absurd ((conn_way _ _ _).2 (walk_way hw)) hc
      · simp only [hb, decide_false, Bool.false_eq_true, if_false]
        have hno2 : ∀ m, m < n + 1 → ¬ WalkN l a m b := fun m hm hw => hb ((g.mem b).2 ⟨m, by omega, hw⟩)
        refine dist_in hl hn g hb (fun hclosed => ?_) (fun more hg hlt => hrec more hg hlt hno2) l.length 0 r (by omega) (by omega) (by omega) ⟨g.nod, ⟨[], by simp⟩, fun x hx => .inl hx, fun k hk => by simp at hk⟩
        rcases hans with ⟨n2, e, hd2⟩ | ⟨e, _⟩
        · exfalso
          have hall : ∀ x, Way l a x → x ∈ r := by
            intro x hw
            induction hw with
            | start => exact (g.mem a).2 ⟨0, by omega, rfl⟩
            | step _ adj ih =>
              obtain ⟨k, hk, ⟨rfl, rfl⟩ | ⟨rfl, rfl⟩⟩ := adj
              · exact (hclosed k hk).1 ih
              · exact (hclosed k hk).2 ih
          exact hb (hall b (walk_way hd2.1))
        · exact e
  induction f with
  | zero =>
    intro n r hn g hlen hno
    exact main n r (by omega) g hno (fun more hg hlt _ => by have := hg.len; omega)
  | succ f ih =>
    intro n r hn g hlen hno
    exact main n r (by omega) g hno (fun more hg hlt hno2 => ih (n + 1) more (by omega) hg (by omega) hno2)
theorem got_start (l : List S28) (a : ByteArray) : Got l a 0 [a] := by
  refine ⟨by simp, fun x => ?_⟩
  constructor
  · intro h; simp at h; rw [h]; exact ⟨0, by omega, rfl⟩
  · rintro ⟨m, hm, hw⟩
    have : m = 0 := by omega
    subst this
    have : x = a := hw
    rw [this]; simp
theorem distance_ev {l : List S28} (hl : l.length ≤ 100) {b : ByteArray} {far : Far} (ht : Told l b far) (a : ByteArray) : Ev (fun k => flagstoneref26_distance.f k l a b) ((far a).getD (-1)) := by
  have hml := members_length hl a
  have hans : Ans l a b ((far a).getD (-1)) := by
    cases hf : far a with
    | some d =>
      obtain ⟨m, hm, hd⟩ := (ht a d).1 hf
      exact .inl ⟨m, hm, hd.symm⟩
    | none =>
      refine .inr ⟨rfl, fun hc => ?_⟩
      obtain ⟨n, hn⟩ := conn_dist.1 hc.symm
      rw [(ht a n).2 ⟨n, rfl, hn⟩] at hf
      cases hf
  exact Ev.congr (fun k => rfl) (dist_run hl hans (members l a).length 0 [a] (by omega) (got_start l a) (by simp) (fun m hm => by omega))

theorem path_scan {l : List S28} (hl : l.length ≤ 100) {b : ByteArray} {far : Far} (ht : Told l b far) {a x : ByteArray} {k0 : S28} {n : Nat} (hn : n ≤ 10000) (ha : far a = some ((n + 1 : Nat) : Int)) {out : List S28} (ho : out.length ≤ 10000) {R : List S28 × Bool}
    (hrec : Ev (fun k => flagstoneref26_Path.l0 k l x b (n : Int) (out ++ [k0])) R) (d : Nat) :
    ∀ i : Int, 0 ≤ i → i ≤ (l.length : Int) → (l.length : Int) - i = d → firstK far a (l.drop i.toNat) = some (k0, x) → Ev (fun k => flagstoneref26_Path.l1 k l a b ((n + 1 : Nat) : Int) out i) R := by
  have hwn : wrap64 (((n + 1 : Nat) : Int) - 1) = (n : Int) := by unfold wrap64; omega
  have hwf : wrap64 ((far a).getD 0 - 1) = (n : Int) := by rw [ha]; exact hwn
  induction d with
  | zero =>
    intro i h0 h1 hd hf
    rw [List.drop_eq_nil_of_le (by omega)] at hf
    cases hf
  | succ d ih =>
    intro i h0 h1 hd hf
    have hlt : i < (l.length : Int) := by omega
    have hw := wrap_next h0 hlt (by omega)
    rw [drop_cons28 h0 hlt] at hf
    have hih := ih (i + 1) (by omega) (by omega) (by omega)
    generalize hkk : rd_T28 l i = k at *
    unfold firstK at hf
    have go : ∀ y, otherO k a = some y → Ev (fun m => (flagstoneref26_distance.f m l y b).bind fun t425 => (if t425 = (n : Int) then (flagstoneref26_Path.l0 m l y b (n : Int) (out ++ [k])) else (flagstoneref26_Path.l1 m l a b ((n + 1 : Nat) : Int) out (i + 1)))) R := by
      intro y hy
      rw [hy] at hf
      simp only [hwf] at hf
      refine Ev.bind (distance_ev hl ht y) ?_
      by_cases e : far y = some (n : Int)
      · rw [if_pos e] at hf
        injection hf with hf
        injection hf with hf1 hf2
        subst hf1; subst hf2
        simp only [e, Option.getD_some, if_true]
        exact hrec
      · rw [if_neg e] at hf
        have e2 : ¬ (far y).getD (-1) = (n : Int) := by
          cases hy2 : far y with
          | none => simp only [Option.getD_none]; omega
          | some z => simp only [Option.getD_some]; intro e3; exact e (by rw [hy2, e3])
        simp only [e2, if_false]
        exact hih hf
    by_cases e0 : a = k.f0
    · refine Ev.step (fun m => ?_) (go k.f1 (by simp [otherO, e0]))
      simp only [flagstoneref26_Path.l1]
      rw [if_pos hlt, if_pos h0, hkk, if_pos (by rw [e0]), if_pos (by rw [e0]), hwn, hw]
      simp only [if_pos (show out.length < 3518437208883 by omega)]
    · have e0' : ¬ k.f0.toList = a.toList := fun e => e0 (toList_inj e).symm
      by_cases e1 : a = k.f1
      · refine Ev.step (fun m => ?_) (go k.f0 (by simp only [otherO]; rw [if_neg e0, if_pos e1]))
        simp only [flagstoneref26_Path.l1]
        rw [if_pos hlt, if_pos h0, hkk, if_neg e0', if_pos (by rw [e1]), hwn, hw]
        simp only [if_pos (show out.length < 3518437208883 by omega)]
      · have e1' : ¬ k.f1.toList = a.toList := fun e => e1 (toList_inj e).symm
        have hoo : otherO k a = none := by simp only [otherO]; rw [if_neg e0, if_neg e1]
        rw [hoo] at hf
        refine Ev.step (fun m => ?_) (hih hf)
        simp only [flagstoneref26_Path.l1]
        rw [if_pos hlt, if_pos h0, hkk, if_neg e0', if_neg e1', hw]
theorem path_run {l : List S28} (hl : l.length ≤ 100) {b : ByteArray} {far : Far} (ht : Told l b far) : ∀ (n : Nat) (a : ByteArray) (p out : List S28), n + out.length ≤ 10000 → far a = some (n : Int) → PathOK l far b n a p → Ev (fun k => flagstoneref26_Path.l0 k l a b (n : Int) out) (out ++ p, true)
  | 0, a, p, out, hn, ha, h => by
    refine Ev.step (f := fun _ => some (out ++ p, true)) (fun k => ?_) (Ev.now _)
    simp only [flagstoneref26_Path.l0]
    rw [if_neg (by omega), h.2, List.append_nil]
  | n + 1, a, p, out, hn, ha, h => by
    obtain ⟨k, x, q, rfl, hk, ho, hx, hf, hp⟩ := h
    have hrec := path_run hl ht n x q (out ++ [k]) (by simp; omega) hx hp
    rw [List.append_assoc] at hrec
    refine Ev.step (fun m => ?_) (path_scan hl ht (by omega) ha (by omega) hrec l.length 0 (by omega) (by omega) (by omega) (by simpa using hf))
    simp only [flagstoneref26_Path.l0]
    rw [if_pos (by omega)]
theorem rpath_ev {l : List S28} (hl : l.length ≤ 100) (a b : ByteArray) : ∃ p, pathF l a b = some (p, sameB (rootL l a) (rootL l b)) ∧ Ev (fun k => flagstoneref26_Path.f k l a b) (p, sameB (rootL l a) (rootL l b)) ∧ p.length ≤ 1000 := by
  obtain ⟨far, ht, hcase⟩ := path_ok (l := l) (by omega) a b
  have hd := distance_ev hl ht a
  rcases hcase with ⟨h1, h2, h3⟩ | ⟨n, p, h1, h2, h3, h4, h5⟩
  · refine ⟨[], by rw [sameB_false h2]; exact h3, ?_, by simp⟩
    rw [sameB_false h2]
    rw [h1] at hd
    unfold flagstoneref26_Path.f
    refine Ev.bind hd ?_
    simp only [Option.getD_none, if_pos (show (-1 : Int) < 0 by omega)]
    exact Ev.now _
  · have hb := told_bound h2
    have hpl := h5.length
    refine ⟨p, by rw [sameB_true h3]; exact h4, ?_, by omega⟩
    rw [sameB_true h3]
    rw [h1] at hd
    unfold flagstoneref26_Path.f
    refine Ev.bind hd ?_
    simp only [Option.getD_some, if_neg (show ¬ (n : Int) < 0 by omega)]
    exact path_run hl ht n a p [] (by simp; omega) h1 h5
end Go.Proofs.Ytmhcpaohligjaaa.Q

namespace Go.Proofs.Ytmhcpaohligjaaa.Q
open Go.RowKit Go.Proofs.YtmhcpaohligjaaaW.PrintWords Go.Proofs.YtmhcpaohligjaaaW.PrintLast Go.Proofs.YtmhcpaohligjaaaW.PrintMore Go.Proofs.Ytmhcpaohligjaaa.M
set_option linter.unusedVariables false
set_option linter.unusedSimpArgs false

theorem guntil_loop (l : List S28) (t : Int) (hl : l.length ≤ 1000) (d : Nat) : ∀ (i : Int), 0 ≤ i → i ≤ l.length → (l.length : Int) - i = d → Ev (fun k => identity_Until.l0 k t ((l.take i.toNat).filter fun k => decide (k.f2 ≤ t)) l (l.length : Int) i) (l.filter fun k => decide (k.f2 ≤ t)) := by
  induction d with
  | zero =>
    intro i h0 h1 hd
    have hi : i = (l.length : Int) := by omega
    refine Ev.step (f := fun _ => some (l.filter fun k => decide (k.f2 ≤ t))) (fun k => ?_) (Ev.now _)
    simp only [identity_Until.l0]
    rw [if_neg (by omega), hi, Int.toNat_natCast, List.take_length]
  | succ d ih =>
    intro i h0 h1 hd
    have hlt : i < (l.length : Int) := by omega
    have hw : wrap64 (i + 1) = i + 1 := by unfold wrap64; omega
    have ht : (i + 1).toNat = i.toNat + 1 := by omega
    have htk : l.take (i + 1).toNat = l.take i.toNat ++ [rd_T28 l i] := by rw [ht, take_snoc28 (by omega), ← rd_nat h0]
    have hlen : ((l.take i.toNat).filter fun k => decide (k.f2 ≤ t)).length ≤ 1000 := by
      have h1 := List.length_filter_le (fun k : S28 => decide (k.f2 ≤ t)) (l.take i.toNat)
      simp at h1 ⊢
      omega
    refine Ev.step (f := fun k => identity_Until.l0 k t ((l.take (i + 1).toNat).filter fun k => decide (k.f2 ≤ t)) l (l.length : Int) (i + 1)) (fun k => ?_) (ih (i + 1) (by omega) (by omega) (by omega))
    simp only [identity_Until.l0]
    rw [if_pos hlt, if_pos h0, if_pos hlt, hw, htk, List.filter_append]
    by_cases hc : (rd_T28 l i).f2 ≤ t
    · rw [if_pos hc, if_pos (by omega)]
      simp [List.filter_cons, hc]
    · rw [if_neg hc]
      simp [List.filter_cons, hc]
theorem guntil_ev (l : List S28) (t : Int) (hl : l.length ≤ 1000) : Ev (fun k => identity_Until.f k l t) (l.filter fun k => decide (k.f2 ≤ t)) :=
  Ev.congr (fun k => rfl) (guntil_loop l t hl l.length 0 (by omega) (by omega) (by omega))
theorem path_f {l : List S28} (h : okA l) {a b : ByteArray} (ha : okS a) (hb : okS b) : identity_Path.f l a b = pathF l a b := by
  unfold identity_Path.f
  rw [grd_pos ⟨h, ha, hb⟩]
  rfl
end Go.Proofs.Ytmhcpaohligjaaa.Q
