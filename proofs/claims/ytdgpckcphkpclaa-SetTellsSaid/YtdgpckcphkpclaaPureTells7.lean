/- SetTells: what it reckons is true. -/
import Derived.Test.YtdgpckcphkpclaaSt
import Derived.Test.YtdgpckcphkpclaaPureSet1
set_option linter.unusedVariables false
set_option linter.unusedSimpArgs false
namespace Go.Proofs.Ytdgpckcphkpclaa
open Go Go.Fw

/-- one round of the row's own sort: an element goes down to its place -/
theorem down_loop (fu : Nat) (x : Int) (c : List Int) : ∀ (k : Nat) (a b : List Int), rising (a ++ b) → x ∉ a → (∀ y ∈ b, x < y) → a.length + b.length + c.length ≤ 1000 → a.length < k →
    Ok (fun r => ∃ d, r = d ++ c ∧ rising d ∧ (∀ y, y ∈ d ↔ y = x ∨ y ∈ a ++ b) ∧ d.length = a.length + b.length + 1) (bonsailaw7_SetTells.l2 fu k (a ++ x :: b ++ c) (a.length : Int)) := by
  intro k
  induction k with
  | zero => intro a b _ _ _ _ hk; omega
  | succ k ih =>
    intro a b hr hx hb hl hk
    unfold bonsailaw7_SetTells.l2
    have hd : (∀ y ∈ a, y < x) → Ok (fun r => ∃ d, r = d ++ c ∧ rising d ∧ (∀ y, y ∈ d ↔ y = x ∨ y ∈ a ++ b) ∧ d.length = a.length + b.length + 1) (some (a ++ x :: b ++ c)) := fun h => by
      refine ⟨_, rfl, a ++ x :: b, rfl, rising_mid hr (fun y hy => decide_eq_true (h y hy)) (fun y hy => decide_eq_true (hb y hy)), fun y => ?_, by simp; omega⟩
      simp only [List.mem_append, List.mem_cons]
      constructor
      · rintro (h | h | h)
        · exact .inr (.inl h)
        · exact .inl h
        · exact .inr (.inr h)
      · rintro (h | h | h)
        · exact .inr (.inl h)
        · exact .inl h
        · exact .inr (.inr h)
    rcases Nat.eq_zero_or_pos a.length with h0 | hp
    · obtain rfl := List.eq_nil_of_length_eq_zero h0
      rw [decide_eq_false (by simp), cfl, obs, cfl]
      exact hd (fun y hy => by cases hy)
    · obtain ⟨a0, z, rfl⟩ : ∃ a0 z, a = a0 ++ [z] := ⟨a.dropLast, a.getLast (fun e => by rw [e] at hp; cases hp), (List.dropLast_concat_getLast _).symm⟩
      have hlen : (a0 ++ [z]).length = a0.length + 1 := by simp
      have e3 : w64 (((a0 ++ [z]).length : Int) - 1) = (a0.length : Int) := by rw [hlen, w64_eq (by omega) (by omega)]; omega
      have e4 : (a0 ++ [z] ++ x :: b ++ c)[(a0 ++ [z]).length]? = some x := by
        rw [List.append_assoc, List.getElem?_append_right (Nat.le_refl _), Nat.sub_self]; rfl
      have e5 : (a0 ++ [z] ++ x :: b ++ c)[a0.length]? = some z := by
        rw [List.append_assoc, List.append_assoc, List.getElem?_append_right (Nat.le_refl _), Nat.sub_self]; rfl
      rw [decide_eq_true (by omega), ctr, e3, idx_nat, idx_nat, e4, e5, obs, obs, obs]
      by_cases hlt : x < z
      · have hset : (((a0 ++ [z] ++ x :: b ++ c).set ((((a0 ++ [z]).length : Nat) : Int)).toNat z)).set ((a0.length : Int)).toNat x = a0 ++ x :: (z :: b) ++ c := by
          rw [Int.toNat_natCast, Int.toNat_natCast, List.append_assoc, List.set_append_right _ _ (Nat.le_refl _), Nat.sub_self, List.append_assoc, List.set_append_right _ _ (Nat.le_refl _), Nat.sub_self]
          simp
        have e6 : ((a0 ++ [z] ++ x :: b ++ c).set ((((a0 ++ [z]).length : Nat) : Int)).toNat z)[a0.length]? = some z := by
          rw [Int.toNat_natCast, List.getElem?_set_ne (by omega)]; exact e5
        rw [decide_eq_true hlt, ctr, obs, obs, obs, idx_nat, e6, obs, hset]
        have hr' : rising (a0 ++ (z :: b)) := by rw [List.append_assoc] at hr; exact hr
        refine (ih a0 (z :: b) hr' (fun h => hx (List.mem_append_left _ h)) (fun y hy => ?_) (by simp at hl ⊢; omega) (by omega)).mono (fun r hr => ?_)
        · rcases List.mem_cons.1 hy with rfl | hy
          · exact hlt
          · exact hb y hy
        · obtain ⟨d, h1, h2, h3, h4⟩ := hr
          refine ⟨d, h1, h2, fun y => ?_, by rw [h4]; simp; omega⟩
          rw [h3 y, List.append_assoc]; rfl
      · rw [decide_eq_false hlt, cfl]
        refine hd (fun y hy => ?_)
        rw [List.mem_append] at hy
        have hzx : z < x := by
          have : z ≠ x := fun e => hx (by rw [e]; simp)
          omega
        rcases hy with hy | hy
        · have := (List.pairwise_append.1 (List.pairwise_append.1 hr).1).2.2 y hy z (by simp)
          have : y < z := of_decide_eq_true this
          omega
        · rw [List.mem_singleton] at hy; subst hy; exact hzx

theorem sort_loop (fu : Nat) (l : List Int) (hd : l.Nodup) (hl : l.length ≤ 100) (hf : l.length < fu) : ∀ (k : Nat) (d : List Int) (i : Nat), rising d → d.length = i → (∀ y, y ∈ d ↔ y ∈ l.take i) → (i ≤ l.length ∨ i = 1) → l.length + 1 - i < k →
    Ok (fun r => rising r ∧ (∀ y, y ∈ r ↔ y ∈ l)) (bonsailaw7_SetTells.l1 fu k (d ++ l.drop i) (i : Int)) := by
  intro k
  induction k with
  | zero => intro d i _ _ _ _ hk; omega
  | succ k ih =>
    intro d i hr hlen hm hle hk
    unfold bonsailaw7_SetTells.l1
    rcases Nat.lt_or_ge i l.length with hlt | hge
    · have hL : (d ++ l.drop i).length = l.length := by simp; omega
      have e1 : decide ((i : Int) < ((d ++ l.drop i).length : Int)) = true := by rw [hL]; simp; omega
      rw [e1, ctr, List.drop_eq_getElem_cons hlt, w64_eq (x := (i : Int) + 1) (by omega) (by omega)]
      have hstep := take_step hlt
      have hx : l[i] ∉ d := fun h => by
        obtain ⟨j, hj⟩ := List.mem_iff_getElem?.1 ((hm _).1 h)
        rw [List.getElem?_take] at hj
        split at hj
        · obtain ⟨h1, h2⟩ := List.getElem?_eq_some_iff.1 hj
          have := (List.getElem_inj hd).1 h2; omega
        · cases hj
      generalize l[i] = x at hx hstep
      have h := down_loop fu x (l.drop (i + 1)) fu d [] (by rw [List.append_nil]; exact hr) hx (fun y hy => by cases hy) (by simp; omega) (by omega)
      rw [hlen, List.append_assoc] at h
      refine Ok.bind h ?_
      rintro _ ⟨d', rfl, h2, h3, h4⟩
      refine ih d' (i + 1) h2 (by simpa using h4) (fun y => ?_) (.inl hlt) (by omega)
      rw [h3 y, List.append_nil, hm y, ← hstep, List.mem_cons]
    · have e1 : decide ((i : Int) < ((d ++ l.drop i).length : Int)) = false := by
        rw [List.drop_eq_nil_of_le hge, List.append_nil]; simp; omega
      rw [e1, cfl, List.drop_eq_nil_of_le hge, List.append_nil]
      rw [List.take_of_length_le hge] at hm
      exact ⟨_, rfl, hr, hm⟩
theorem sort_all {fu : Nat} {l : List Int} (hd : l.Nodup) (hl : l.length ≤ 100) (hf : 200 ≤ fu) : Ok (fun r => rising r ∧ (∀ y, y ∈ r ↔ y ∈ l)) (bonsailaw7_SetTells.l1 fu fu l 1) := by
  cases l with
  | nil => 
    obtain ⟨fu, rfl⟩ : ∃ k, fu = k + 1 := ⟨fu - 1, by omega⟩
    unfold bonsailaw7_SetTells.l1
    exact ⟨_, rfl, List.Pairwise.nil, fun y => Iff.rfl⟩
  | cons x l => exact sort_loop fu (x :: l) hd hl (by omega) fu [x] 1 (List.pairwise_singleton _ _) rfl (fun y => by simp) (.inr rfl) (by omega)

theorem tells_loop (fu : Nat) (n : List Int) (hn : n.length ≤ 100) (hf : 200 ≤ fu) : ∀ (k : Nat) (b m : List Int) (i : Nat), IsSet b m → m.Nodup → m.length ≤ i → i ≤ n.length → n.length - i < k →
    Ok (LRp (fun r : List Int × List Int => IsSet r.1 r.2 ∧ r.2.Nodup ∧ r.2.length ≤ n.length) (fun _ => False)) (bonsailaw7_SetTells.l0 fu n k b m (i : Int)) := by
  intro k
  induction k with
  | zero => intro b m i _ _ _ _ hk; omega
  | succ k ih =>
    intro b m i hb hm hlm hle hk
    unfold bonsailaw7_SetTells.l0
    rcases Nat.lt_or_ge i n.length with hlt | hge
    · have e1 : decide ((i : Int) < (n.length : Int)) = true := by simp; omega
      rw [e1, ctr, idx_nat, List.getElem?_eq_getElem hlt, obs, w64_eq (x := (i : Int) + 1) (by omega) (by omega)]
      generalize n[i] = z
      refine Ok.lthen (S := fun r : List Int × List Int => IsSet r.1 r.2 ∧ r.2.Nodup ∧ r.2.length ≤ i + 1) ?_ (fun s hs => ih s.1 s.2 (i + 1) hs.1 hs.2.1 hs.2.2 hlt (by omega))
      refine Ok.bind (P := fun _ => True) (Ok.bif (fun _ => ⟨_, rfl, trivial⟩) fun _ => ⟨_, rfl, trivial⟩) (fun x _ => ?_)
      obtain ⟨is, h1, h2⟩ := has_ok (fu := fu) (l := m) x (by omega) (by omega)
      obtain ⟨⟨u, v⟩, h3, h4, h5⟩ := Has_int hb x
      simp only at h4 h5; subst h5
      have hu : u = is := by
        cases u <;> cases is <;> first | rfl | exact absurd (h2.2 (h4.1 rfl)) (by simp) | exact absurd (h4.2 (h2.1 rfl)) (by simp)
      subst hu
      obtain ⟨⟨f, s⟩, h6, h7, h8⟩ := Add_int hb (x := x) (by omega)
      simp only at h7 h8
      have hfu : (f == u) = false := by
        by_cases hx : x ∈ m
        · rw [h2.2 hx]
          have hf : f ≠ true := fun e => h7.1 e hx
          cases f
          · rfl
          · exact absurd rfl hf
        · rw [h7.2 hx]
          have hf : u ≠ true := fun e => hx (h2.1 e)
          cases u
          · rfl
          · exact absurd rfl hf
      obtain ⟨⟨g, s'⟩, h9, h10, h11⟩ := Has_int h8 x
      simp only at h10 h11; subst h11
      have hg : g = true := h10.2 (List.mem_cons_self ..)
      subst hg
      rw [h1, obs, h3, obs]
      simp only [beq_self_eq_true, Bool.not_true, cfl]
      rw [h6, obs, hfu, obs]
      simp only [cfl]
      rw [h9, obs, Bool.not_true, obs]
      simp only [cfl]
      cases u with
      | true =>
        have hx := h2.1 rfl
        exact ⟨_, rfl, h8.congr fun y => by rw [List.mem_cons]; exact ⟨fun h => h.elim (fun e => e ▸ hx) id, .inr⟩, hm, by simp only; omega⟩
      | false =>
        have hx : x ∉ m := fun h => nomatch h2.2 h
        rw [roomy_of (by omega)]
        refine ⟨_, rfl, h8.congr fun y => ?_, ?_, by simp; omega⟩
        · simp only [List.mem_cons, List.mem_append, List.mem_singleton]; rw [or_comm]; simp
        · refine List.nodup_append.2 ⟨hm, by simp, fun p hp q hq => ?_⟩
          rw [List.mem_singleton] at hq; subst hq; intro e; subst e; exact hx hp
    · have e1 : decide ((i : Int) < (n.length : Int)) = false := by simp; omega
      rw [e1, cfl]
      exact ⟨_, rfl, hb, hm, by simp only; omega⟩

theorem bonsailaw7_SetTells_true (l : List ByteArray) (hl0 : l.length ≤ maxLen) (hw : ∀ y ∈ l, y.size ≤ maxLen) (n : List Int) (hn0 : n.length ≤ maxLen) (hnw : ∀ y ∈ n, (Lit.int .i64 y).wf = true) (s : ByteArray) (ws : s.size ≤ maxLen) (x : Int) (wx : (Lit.int .i64 x).wf = true) : ∃ fu, bonsailaw7_SetTells.fn fu l n s x = some true := by
  refine ⟨300, ?_⟩
  suffices h : Ok (fun r => r = true) (bonsailaw7_SetTells.fn 300 l n s x) by obtain ⟨v, h, rfl⟩ := h; exact h
  unfold bonsailaw7_SetTells.fn
  rw [known_true (by decide), obs, Bool.not_true, cfl]
  by_cases hb : l.length ≤ 20 ∧ n.length ≤ 20
  · have e1 : (bif decide ((l.length : Int) > 20) then some true else some (decide ((n.length : Int) > 20))) = some false := by
      rw [decide_eq_false (by omega), cfl, decide_eq_false (by omega)]
    rw [e1, obs, cfl]
    refine Ok.bind (New_string (by omega) (by omega)) (fun a ha => ?_)
    refine Ok.bind (New_int (by simp) (by simp)) (fun b0 hb0 => ?_)
    refine Ok.lthen ((tells_loop 300 n (by omega) (by omega) 300 b0 [] 0 hb0 List.nodup_nil (by simp) (Nat.zero_le _) (by omega)).mono (Q := LRp (fun r : List Int × List Int => IsSet r.1 r.2 ∧ r.2.Nodup ∧ r.2.length ≤ n.length) (fun r => r = true)) (fun v hv => by cases v with
      | brk s => exact hv
      | ret r => exact hv.elim)) (fun u hu => ?_)
    obtain ⟨b, m⟩ := u
    obtain ⟨hbm, hmd, hml⟩ := hu
    simp only at hbm hmd hml ⊢
    refine Ok.bind (sort_all hmd (by omega) (by omega)) (fun o ho => ?_)
    have hbl := hbm.len
    have hso : srt b = o := srt_of hbm.1 ho.1 (fun y => (hbm.2 y).trans (ho.2 y).symm)
    have hol : o.length = b.length := by rw [← hso, srt_len]
    rw [List_int b (by omega), obs, hso]
    dsimp only
    rw [Ints_refl (by omega) (by omega), obs, ctr]
    have hL : ∀ s : List Int, set_Set_int_Len.fn s = some ((s.length : Int), s) := fun s => rfl
    have hLs : ∀ s : List ByteArray, set_Set_string_Len.fn s = some ((s.length : Int), s) := fun s => rfl
    rw [hL, obs, obs, hol]
    simp only [beq_self_eq_true, ctr]
    obtain ⟨⟨u, v⟩, h3, h4, h5⟩ := Has_int hbm x
    simp only at h4 h5; subst h5
    obtain ⟨is, h1, h2⟩ := has_ok (fu := 300) (l := o) x (by omega) (by omega)
    have hu : u = is := by
      have := ho.2 x
      cases u <;> cases is <;> first | rfl | exact absurd (h2.2 (this.2 (h4.1 rfl))) (by simp) | exact absurd (h4.2 (this.1 (h2.1 rfl))) (by simp)
    subst hu
    rw [h3, obs, h1, obs, beq_self_eq_true, obs, ctr]
    have hal := ha.len
    obtain ⟨q, h6, h7, h8⟩ := Sorted_ok (fu := 300) (l := l) (by omega) (by omega)
    have hsa : srt a = q := srt_of ha.1 h7 (fun y => (ha.2 y).trans (h8 y).symm)
    have hql : q.length = a.length := by rw [← hsa, srt_len]
    rw [List_string a (by omega), obs, h6, obs, hsa]
    dsimp only
    rw [Strings_refl (by omega) (by omega), obs, obs]
    simp only [ctr]
    obtain ⟨⟨u, v⟩, h9, h10, h11⟩ := Has_string ha s
    simp only at h10 h11; subst h11
    obtain ⟨is, h12, h13⟩ := In_ok (fu := 300) (l := l) s (by omega) (by omega)
    have hu : u = is := by
      cases u <;> cases is <;> first | rfl | exact absurd (h13.2 (h10.1 rfl)) (by simp) | exact absurd (h10.2 (h13.1 rfl)) (by simp)
    subst hu
    rw [h9, obs, h12, obs, obs]
    simp only [beq_self_eq_true, ctr]
    rw [hLs, obs, obs, hql, beq_self_eq_true]
    exact ⟨_, rfl, rfl⟩
  · have e1 : (bif decide ((l.length : Int) > 20) then some true else some (decide ((n.length : Int) > 20))) = some true := by
      by_cases h : l.length ≤ 20
      · rw [decide_eq_false (by omega), cfl, decide_eq_true (by omega)]
      · rw [decide_eq_true (by omega), ctr]
    rw [e1, obs, ctr]
    exact ⟨_, rfl, rfl⟩
end Go.Proofs.Ytdgpckcphkpclaa
