/- SetWorks: what it reckons is true. -/
import Derived.Test.YtdgpckcphkpclaaSu
import Derived.Test.YtdgpckcphkpclaaPureSet1
set_option linter.unusedVariables false
set_option linter.unusedSimpArgs false
namespace Go.Proofs.Ytdgpckcphkpclaa
open Go Go.Fw

theorem least_loop (fu : Nat) (t : List Int) (hl : t.length ≤ 1000) : ∀ (k q j : Nat), q < t.length → j ≤ t.length → (∀ i : Nat, i < j → ∀ x y : Int, t[i]? = some x → t[q]? = some y → y ≤ x) → t.length - j < k →
    Ok (fun z => ∃ q : Nat, z = (q : Int) ∧ q < t.length ∧ ∀ (i : Nat) (x y : Int), t[i]? = some x → t[q]? = some y → y ≤ x) (bonsailaw7_SetWorks.l1 fu t k (q : Int) (j : Int)) := by
  intro k
  induction k with
  | zero => intro q j _ _ _ hk; omega
  | succ k ih =>
    intro q j hq hle hm hk
    unfold bonsailaw7_SetWorks.l1
    rcases Nat.lt_or_ge j t.length with hlt | hge
    · have e1 : decide ((j : Int) < (t.length : Int)) = true := by simp; omega
      have hj := List.getElem?_eq_getElem hlt
      have hqq := List.getElem?_eq_getElem hq
      rw [e1, ctr, idx_nat, idx_nat, hj, hqq, obs, obs, w64_eq (x := (j : Int) + 1) (by omega) (by omega)]
      by_cases hc : t[j] < t[q]
      · rw [decide_eq_true hc, ctr, obs]
        refine ih j (j + 1) hlt hlt (fun i hi x y hx hy => ?_) (by omega)
        rw [hj] at hy; have := Option.some.inj hy; subst this
        rcases Nat.lt_or_ge i j with h | h
        · have := hm i h x _ hx hqq; omega
        · obtain rfl : i = j := by omega
          rw [hj] at hx; have := Option.some.inj hx; omega
      · rw [decide_eq_false hc, cfl, obs]
        refine ih q (j + 1) hq hlt (fun i hi x y hx hy => ?_) (by omega)
        rcases Nat.lt_or_ge i j with h | h
        · exact hm i h x y hx hy
        · obtain rfl : i = j := by omega
          rw [hj] at hx; rw [hqq] at hy
          have := Option.some.inj hx; have := Option.some.inj hy; omega
    · have e1 : decide ((j : Int) < (t.length : Int)) = false := by simp; omega
      rw [e1, cfl]
      refine ⟨_, rfl, q, rfl, hq, fun i x y hx hy => hm i ?_ x y hx hy⟩
      have := (List.getElem?_eq_some_iff.1 hx).1; omega

/-- a row without one of its elements -/
theorem out_mem {t : List Int} (hd : t.Nodup) {q : Nat} {x : Int} (hq : t[q]? = some x) (y : Int) : y ∈ t.take q ++ t.drop (q + 1) ↔ y ∈ t ∧ y ≠ x := by
  obtain ⟨hlt, rfl⟩ := List.getElem?_eq_some_iff.1 hq
  have hsplit : t = t.take q ++ t[q] :: t.drop (q + 1) := by rw [← List.drop_eq_getElem_cons hlt, List.take_append_drop]
  have hd' := List.nodup_append.1 (hsplit ▸ hd : (t.take q ++ t[q] :: t.drop (q + 1)).Nodup)
  have hd2 := List.nodup_cons.1 hd'.2.1
  constructor
  · intro h
    rcases List.mem_append.1 h with h | h
    · exact ⟨List.mem_of_mem_take h, hd'.2.2 y h _ (List.mem_cons_self ..)⟩
    · exact ⟨List.mem_of_mem_drop h, fun e => hd2.1 (e ▸ h)⟩
  · rintro ⟨h, hne⟩
    rw [hsplit] at h
    rcases List.mem_append.1 h with h | h
    · exact List.mem_append_left _ h
    · rcases List.mem_cons.1 h with h | h
      · exact absurd h hne
      · exact List.mem_append_right _ h
theorem out_nodup {t : List Int} (hd : t.Nodup) (q : Nat) : (t.take q ++ t.drop (q + 1)).Nodup := by
  have h : (t.take q ++ t.drop (q + 1)).Sublist t := by
    have h1 : (t.take q ++ t.drop (q + 1)).Sublist (t.take q ++ t.drop q) := List.Sublist.append (List.Sublist.refl _) (List.drop_sublist_drop_left _ (Nat.le_succ q))
    rwa [List.take_append_drop] at h1
  exact h.nodup hd

theorem works_loop (fu : Nat) (l : List Int) (a : List bonsailaw7_Act) (ha : ∀ y ∈ a, 0 ≤ y.What) (hl : l.length ≤ 20) (hal : a.length ≤ 60) (hf : 200 ≤ fu) : ∀ (k : Nat) (w : WorkV Int) (e t : List Int) (i : Nat), IsWork w e t → t.Nodup → (∀ y ∈ t, y ∈ e) → e.length ≤ i → t.length ≤ i → i ≤ l.length + a.length → l.length + a.length - i < k →
    Ok (LRp (fun _ : Unit => True) (fun _ => False)) (bonsailaw7_SetWorks.l0 fu l a k w e t (i : Int)) := by
  intro k
  induction k with
  | zero => intro w e t i _ _ _ _ _ _ hk; omega
  | succ k ih =>
    intro w e t i hw hd hte hel htl hle hk
    unfold bonsailaw7_SetWorks.l0
    have eN : w64 ((l.length : Int) + (a.length : Int)) = ((l.length + a.length : Nat) : Int) := by rw [w64_eq (by omega) (by omega)]; omega
    rw [eN]
    rcases Nat.lt_or_ge i (l.length + a.length) with hlt | hge
    · rw [decide_eq_true (by omega), ctr, w64_eq (x := (i : Int) + 1) (by omega) (by omega)]
      refine Ok.lthen (S := fun r : WorkV Int × List Int × List Int => IsWork r.1 r.2.1 r.2.2 ∧ r.2.2.Nodup ∧ (∀ y ∈ r.2.2, y ∈ r.2.1) ∧ r.2.1.length ≤ i + 1 ∧ r.2.2.length ≤ i + 1) ?_ (fun s hs => ih s.1 s.2.1 s.2.2 (i + 1) hs.1 hs.2.1 hs.2.2.1 hs.2.2.2.1 hs.2.2.2.2 hlt (by omega))
      refine Ok.bind (P := fun _ => True) ?_ (fun s _ => ?_)
      · refine Ok.bif (fun h => ?_) (fun h => ?_)
        · have h := of_decide_eq_true h
          rw [idx_nat, List.getElem?_eq_getElem (by omega), obs]; exact ⟨_, rfl, trivial⟩
        · have h := of_decide_eq_false h
          have e3 : w64 ((i : Int) - (l.length : Int)) = ((i - l.length : Nat) : Int) := by rw [w64_eq (by omega) (by omega)]; omega
          rw [e3, idx_nat, List.getElem?_eq_getElem (by omega), obs, obs]
          refine Ok.bind (P := fun _ => True) (Ok.bif (fun _ => ⟨_, rfl, trivial⟩) fun _ => ⟨_, rfl, trivial⟩) (fun x _ => ?_)
          exact Ok.bif (fun _ => ⟨_, rfl, trivial⟩) fun _ => ⟨_, rfl, trivial⟩
      obtain ⟨what, x⟩ := s
      dsimp only
      obtain ⟨was, hh1, hh2⟩ := has_ok (fu := fu) (l := e) x (by omega) (by omega)
      obtain ⟨wat, hh3, hh4⟩ := has_ok (fu := fu) (l := t) x (by omega) (by omega)
      refine Ok.bind (P := fun _ => True) (Ok.bif (fun _ => ⟨_, rfl, trivial⟩) fun _ => ⟨_, rfl, trivial⟩) (fun b _ => ?_)
      refine Ok.bif (fun _ => ?_) (fun _ => Ok.bif (fun _ => ?_) (fun _ => ?_))
      · -- put
        refine Ok.bind (Put_int (x := x) hw (by omega) (by omega)) (fun p hp => ?_)
        rw [hh1, obs]
        cases was with
        | true =>
          have hx := hh2.1 rfl
          have hp1 : p.1 = false := by cases h : p.1 with
            | false => rfl
            | true => exact absurd hx (hp.1.1 h)
          rw [hp1]
          simp only [cfl, Bool.not_true, obs, show (false == true) = false from rfl]
          exact ⟨_, rfl, (hp.2.2 hx).1, hd, hte, Nat.le_succ_of_le hel, Nat.le_succ_of_le htl⟩
        | false =>
          have hx : x ∉ e := fun h => nomatch hh2.2 h
          have hp1 : p.1 = true := hp.1.2 hx
          have hxt : x ∉ t := fun h => hx (hte x h)
          rw [hp1]
          simp only [cfl, ctr, Bool.not_false, obs, show (true == false) = false from rfl]
          rw [roomy_of (by omega), roomy_of (by omega)]
          have hc : ∀ (m : List Int) (y : Int), y ∈ x :: m ↔ y ∈ m ++ [x] := fun m y => by simp only [List.mem_cons, List.mem_append, List.mem_singleton]; rw [or_comm]; simp
          refine ⟨_, rfl, (hp.2.1 hx).congr (hc e) (hc t), ?_, fun y hy => ?_, by simp; omega, by simp; omega⟩
          · refine List.nodup_append.2 ⟨hd, by simp, fun u hu v hv => ?_⟩
            rw [List.mem_singleton] at hv; intro e2; rw [e2, hv] at hu; exact hxt hu
          · rcases List.mem_append.1 hy with hy | hy
            · exact List.mem_append_left _ (hte y hy)
            · exact List.mem_append_right _ hy
      · -- again
        refine Ok.bind (Again_int (x := x) hw (by omega) (by omega)) (fun p hp => ?_)
        have hc : ∀ (m : List Int) (y : Int), y ∈ x :: m ↔ y ∈ m ++ [x] := fun m y => by simp only [List.mem_cons, List.mem_append, List.mem_singleton]; rw [or_comm]; simp
        rw [hh3, obs]
        cases wat with
        | true =>
          have hx := hh4.1 rfl
          simp only [cfl, Bool.not_true, obs]
          rw [roomy_of (by omega)]
          refine ⟨_, rfl, hp.congr (hc e) (fun y => ?_), hd, fun y hy => List.mem_append_left _ (hte y hy), by simp; omega, Nat.le_succ_of_le htl⟩
          rw [List.mem_cons]; exact ⟨fun h => h.elim (fun e => e ▸ hx) id, .inr⟩
        | false =>
          have hxt : x ∉ t := fun h => nomatch hh4.2 h
          simp only [ctr, Bool.not_false, obs]
          rw [roomy_of (by omega), roomy_of (by omega)]
          refine ⟨_, rfl, hp.congr (hc e) (hc t), ?_, fun y hy => ?_, by simp; omega, by simp; omega⟩
          · refine List.nodup_append.2 ⟨hd, by simp, fun u hu v hv => ?_⟩
            rw [List.mem_singleton] at hv; intro e2; rw [e2, hv] at hu; exact hxt hu
          · rcases List.mem_append.1 hy with hy | hy
            · exact List.mem_append_left _ (hte y hy)
            · exact List.mem_append_right _ hy
      · -- take
        rcases Nat.eq_zero_or_pos t.length with h0 | hp
        · obtain rfl := List.eq_nil_of_length_eq_zero h0
          have hnil : w.todo = [] := List.eq_nil_iff_forall_not_mem.2 fun y hy => by have := (hw.2.1 y).1 hy; cases this
          rw [Take_none_int hnil, obs, decide_eq_false (by simp)]
          simp only [beq_self_eq_true, Bool.not_true, Bool.not_false, cfl, ctr]
          exact ⟨_, rfl, hw, hd, hte, Nat.le_succ_of_le hel, Nat.le_succ_of_le htl⟩
        · obtain ⟨y, r, hyr⟩ : ∃ y r, w.todo = y :: r := by
            cases hq : w.todo with
            | cons y r => exact ⟨y, r, rfl⟩
            | nil =>
              obtain ⟨z, hz⟩ := List.exists_mem_of_length_pos hp
              have := (hw.2.1 z).2 hz; rw [hq] at this; cases this
          rw [Take_some_int hyr, obs, decide_eq_true (by omega)]
          simp only [beq_self_eq_true, Bool.not_true, cfl]
          refine Ok.bind (least_loop fu t (by omega) fu 0 0 hp (Nat.zero_le _) (fun i hi => absurd hi (Nat.not_lt_zero _)) (by omega)) ?_
          rintro _ ⟨q, rfl, hq, hmin⟩
          have hqq := List.getElem?_eq_getElem hq
          have hty : t[q] = y := by
            have h1 : y ∈ t := (hw.2.1 y).1 (by rw [hyr]; exact List.mem_cons_self ..)
            obtain ⟨j, hj⟩ := List.mem_iff_getElem?.1 h1
            have h2 := hmin j y _ hj hqq
            have h3 : t[q] ∈ w.todo := (hw.2.1 _).2 (List.getElem_mem hq)
            rw [hyr] at h3
            rcases List.mem_cons.1 h3 with h3 | h3
            · exact h3
            · have := hw.1; rw [hyr] at this
              have : y < t[q] := of_decide_eq_true ((List.pairwise_cons.1 this).1 _ h3)
              omega
          rw [hty] at hqq
          have e5 : w64 ((q : Int) + 1) = ((q + 1 : Nat) : Int) := by rw [w64_eq (by omega) (by omega)]; omega
          rw [idx_nat, hqq, obs, bne_self_eq_false, cfl, e5, show (0 : Int) = ((0 : Nat) : Int) from rfl, subOk_of (Nat.zero_le _) (by omega), subOk_of (by omega) (Nat.le_refl _), show ((0 : Nat) : Int) = 0 from rfl, subl_take, subl_drop, List.nil_append]
          have hz : (t.take q).length = q := by simp; omega
          have hz2 : (t.drop (q + 1)).length = t.length - (q + 1) := by simp
          rw [roomy_of (by rw [hz]; simp only [List.length_nil]; omega), roomy_of (by rw [hz, hz2]; omega)]
          refine ⟨_, rfl, ⟨?_, fun z => ?_, hw.2.2⟩, out_nodup hd q, fun z hz => hte z ((out_mem hd hqq z).1 hz).1, Nat.le_succ_of_le hel, ?_⟩
          · have := hw.1; rw [hyr] at this; exact (List.pairwise_cons.1 this).2
          · have hnd := hw.1; rw [hyr] at hnd
            have hnd2 := List.nodup_cons.1 (rising_nodup hnd)
            rw [out_mem hd hqq z, ← hw.2.1 z, hyr, List.mem_cons]
            constructor
            · exact fun h => ⟨.inr h, fun e => hnd2.1 (e ▸ h)⟩
            · rintro ⟨h | h, hne⟩
              · exact absurd h hne
              · exact h
          · show (t.take q ++ t.drop (q + 1)).length ≤ i + 1
            rw [List.length_append, hz, hz2]; omega
    · rw [decide_eq_false (by omega), cfl]
      exact ⟨_, rfl, trivial⟩

theorem bonsailaw7_SetWorks_true (l : List Int) (hl0 : l.length ≤ maxLen) (hw : ∀ y ∈ l, (Lit.int .i64 y).wf = true) (a : List bonsailaw7_Act) (ha0 : a.length ≤ maxLen) (ha : ∀ y ∈ a, (Lit.int .u8 y.What).wf = true ∧ (Lit.int .i64 y.X).wf = true) : ∃ fu, bonsailaw7_SetWorks.fn fu l a = some true := by
  refine ⟨300, ?_⟩
  suffices h : Ok (fun r => r = true) (bonsailaw7_SetWorks.fn 300 l a) by obtain ⟨v, h, rfl⟩ := h; exact h
  unfold bonsailaw7_SetWorks.fn
  rw [known_true (by decide), obs, Bool.not_true, cfl]
  by_cases hb : l.length ≤ 20 ∧ a.length ≤ 60
  · have e1 : (bif decide ((l.length : Int) > 20) then some true else some (decide ((a.length : Int) > 60))) = some false := by
      rw [decide_eq_false (by omega), cfl, decide_eq_false (by omega)]
    rw [e1, obs, cfl]
    refine Ok.bind (NewWork_int (l := []) (by simp) (by simp)) (fun w hw => ?_)
    refine Ok.lthen ((works_loop 300 l a (fun y hy => (u8_bounds (ha y hy).1).1) hb.1 hb.2 (by omega) 300 w [] [] 0 hw List.nodup_nil (fun y hy => hy) (Nat.le_refl _) (Nat.le_refl _) (Nat.zero_le _) (by omega)).mono (Q := LRp (fun _ : Unit => True) (fun r => r = true)) (fun v hv => by cases v with
      | brk s => exact hv
      | ret r => exact hv.elim)) (fun v hv => ⟨_, rfl, rfl⟩)
  · have e1 : (bif decide ((l.length : Int) > 20) then some true else some (decide ((a.length : Int) > 60))) = some true := by
      by_cases h : l.length ≤ 20
      · rw [decide_eq_false (by omega), cfl, decide_eq_true (by omega)]
      · rw [decide_eq_true (by omega), ctr]
    rw [e1, obs, ctr]
    exact ⟨_, rfl, rfl⟩
end Go.Proofs.Ytdgpckcphkpclaa
