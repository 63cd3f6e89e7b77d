/- What the laws on sets lean on: their helpers, and what is known. -/
import Derived.Test.YtdgpckcphkpclaaSk
import Derived.Test.YtdgpckcphkpclaaPaS
import Derived.Test.YtdgpckcphkpclaaPaI
set_option linter.unusedVariables false
set_option linter.unusedSimpArgs false
namespace Go.Proofs.Ytdgpckcphkpclaa
open Go Go.Fw

theorem Ints_loop (fu : Nat) (l : List Int) (hl : l.length ≤ 1000) : ∀ (k i : Nat), i ≤ l.length → l.length - i < k → bonsaihelp_Ints.l0 fu l l k (i : Int) = some (.brk ()) := by
  intro k
  induction k with
  | zero => intro i _ hk; omega
  | succ k ih =>
    intro i hle hk
    unfold bonsaihelp_Ints.l0
    rcases Nat.lt_or_ge i l.length with hlt | hge
    · have e1 : decide ((i : Int) < (l.length : Int)) = true := by simp; omega
      rw [e1, ctr, idx_nat, List.getElem?_eq_getElem hlt, obs, obs, bne_self_eq_false, cfl, w64_eq (x := (i : Int) + 1) (by omega) (by omega)]
      exact ih (i + 1) hlt (by omega)
    · have e1 : decide ((i : Int) < (l.length : Int)) = false := by simp; omega
      rw [e1, cfl]
theorem Ints_refl {fu : Nat} {l : List Int} (hl : l.length ≤ 1000) (hf : l.length < fu) : bonsaihelp_Ints.fn fu l l = some true := by
  unfold bonsaihelp_Ints.fn
  rw [bne_self_eq_false, cfl, show (0 : Int) = ((0 : Nat) : Int) from rfl, Ints_loop fu l hl fu 0 (Nat.zero_le _) (by omega)]
  rfl
theorem Strings_loop (fu : Nat) (l : List ByteArray) (hl : l.length ≤ 1000) : ∀ (k i : Nat), i ≤ l.length → l.length - i < k → bonsairef1_Strings.l0 fu l l k (i : Int) = some (.brk ()) := by
  intro k
  induction k with
  | zero => intro i _ hk; omega
  | succ k ih =>
    intro i hle hk
    unfold bonsairef1_Strings.l0
    rcases Nat.lt_or_ge i l.length with hlt | hge
    · have e1 : decide ((i : Int) < (l.length : Int)) = true := by simp; omega
      rw [e1, ctr, idx_nat, List.getElem?_eq_getElem hlt, obs, obs, beq_self_eq_true, Bool.not_true, cfl, w64_eq (x := (i : Int) + 1) (by omega) (by omega)]
      exact ih (i + 1) hlt (by omega)
    · have e1 : decide ((i : Int) < (l.length : Int)) = false := by simp; omega
      rw [e1, cfl]
theorem Strings_refl {fu : Nat} {l : List ByteArray} (hl : l.length ≤ 1000) (hf : l.length < fu) : bonsaihelp_Strings.fn fu l l = some true := by
  have h : bonsairef1_Strings.fn fu l l = some true := by
    unfold bonsairef1_Strings.fn
    rw [bne_self_eq_false, cfl, show (0 : Int) = ((0 : Nat) : Int) from rfl, Strings_loop fu l hl fu 0 (Nat.zero_le _) (by omega)]
    rfl
  unfold bonsaihelp_Strings.fn
  rw [h, obs]

theorem has_loop (fu : Nat) (l : List Int) (x : Int) (hl : l.length ≤ 1000) : ∀ (k i : Nat), x ∉ l.take i → i ≤ l.length → l.length - i < k → Ok (LRp (fun _ => x ∉ l) (fun r => r = true ∧ x ∈ l)) (bonsailaw7_has.l0 fu l x k (i : Int)) := by
  intro k
  induction k with
  | zero => intro i _ _ hk; omega
  | succ k ih =>
    intro i hn hle hk
    unfold bonsailaw7_has.l0
    rcases Nat.lt_or_ge i l.length with hlt | hge
    · have e1 : decide ((i : Int) < (l.length : Int)) = true := by simp; omega
      rw [e1, ctr, idx_nat, List.getElem?_eq_getElem hlt, obs]
      refine Ok.bif (fun h => ?_) (fun h => ?_)
      · rw [beq_iff_eq] at h
        exact Ok.lesc ⟨_, rfl, rfl, h ▸ List.getElem_mem hlt⟩
      · rw [w64_eq (x := (i : Int) + 1) (by omega) (by omega)]
        refine ih (i + 1) (fun hm => ?_) hlt (by omega)
        rw [← take_step hlt, List.mem_cons] at hm
        rcases hm with hm | hm
        · rw [beq_eq_false_iff_ne] at h; exact h hm.symm
        · exact hn hm
    · have e1 : decide ((i : Int) < (l.length : Int)) = false := by simp; omega
      rw [e1, cfl]
      rw [List.take_of_length_le hge] at hn
      exact ⟨_, rfl, hn⟩
theorem has_ok {fu : Nat} {l : List Int} (x : Int) (hl : l.length ≤ 1000) (hf : l.length < fu) : Ok (fun r => r = true ↔ x ∈ l) (bonsailaw7_has.fn fu l x) := by
  unfold bonsailaw7_has.fn
  obtain ⟨v, h1, h2⟩ := has_loop fu l x hl fu 0 (by simp) (Nat.zero_le _) (by omega)
  rw [show (0 : Int) = ((0 : Nat) : Int) from rfl, h1]
  cases v with
  | brk s => exact ⟨false, rfl, (fun h => nomatch h), fun h => absurd h h2⟩
  | ret r => exact ⟨r, rfl, fun _ => h2.2, fun _ => h2.1⟩
theorem In_loop (fu : Nat) (l : List ByteArray) (x : ByteArray) (hl : l.length ≤ 1000) : ∀ (k i : Nat), x ∉ l.take i → i ≤ l.length → l.length - i < k → Ok (LRp (fun _ => x ∉ l) (fun r => r = true ∧ x ∈ l)) (bonsairef7_In.l0 fu l x k (i : Int)) := by
  intro k
  induction k with
  | zero => intro i _ _ hk; omega
  | succ k ih =>
    intro i hn hle hk
    unfold bonsairef7_In.l0
    rcases Nat.lt_or_ge i l.length with hlt | hge
    · have e1 : decide ((i : Int) < (l.length : Int)) = true := by simp; omega
      rw [e1, ctr, idx_nat, List.getElem?_eq_getElem hlt, obs, bytes_cmp]
      refine Ok.bif (fun h => ?_) (fun h => ?_)
      · rw [decide_eq_true_eq] at h
        exact Ok.lesc ⟨_, rfl, rfl, h ▸ List.getElem_mem hlt⟩
      · rw [w64_eq (x := (i : Int) + 1) (by omega) (by omega)]
        refine ih (i + 1) (fun hm => ?_) hlt (by omega)
        rw [← take_step hlt, List.mem_cons] at hm
        rcases hm with hm | hm
        · rw [decide_eq_false_iff_not] at h; exact h hm.symm
        · exact hn hm
    · have e1 : decide ((i : Int) < (l.length : Int)) = false := by simp; omega
      rw [e1, cfl]
      rw [List.take_of_length_le hge] at hn
      exact ⟨_, rfl, hn⟩
theorem In_ok {fu : Nat} {l : List ByteArray} (x : ByteArray) (hl : l.length ≤ 1000) (hf : l.length < fu) : Ok (fun r => r = true ↔ x ∈ l) (bonsairef7_In.fn fu l x) := by
  unfold bonsairef7_In.fn
  obtain ⟨v, h1, h2⟩ := In_loop fu l x hl fu 0 (by simp) (Nat.zero_le _) (by omega)
  rw [show (0 : Int) = ((0 : Nat) : Int) from rfl, h1]
  cases v with
  | brk s => exact ⟨false, rfl, (fun h => nomatch h), fun h => absurd h h2⟩
  | ret r => exact ⟨r, rfl, fun _ => h2.2, fun _ => h2.1⟩

/-- where a text belongs in a row that rises -/
theorem Sorted_in (fu : Nat) (l out : List ByteArray) (i : Nat) (x : ByteArray) (hx : l[i]? = some x) (hl : out.length ≤ 1000) : ∀ (k j : Nat), (∀ y ∈ out.take j, Scal.lt y x = true) → j ≤ out.length → out.length - j < k →
    Ok (fun z => ∃ j : Nat, z = (j : Int) ∧ j ≤ out.length ∧ (∀ y ∈ out.take j, Scal.lt y x = true) ∧ (∀ y, out[j]? = some y → Scal.lt y x = false)) (bonsairef7_Sorted.l1 fu l out (i : Int) k (j : Int)) := by
  intro k
  induction k with
  | zero => intro j _ _ hk; omega
  | succ k ih =>
    intro j hn hle hk
    unfold bonsairef7_Sorted.l1
    rcases Nat.lt_or_ge j out.length with hlt | hge
    · have e1 : decide ((j : Int) < (out.length : Int)) = true := by simp; omega
      rw [e1, ctr, idx_nat, idx_nat, hx, List.getElem?_eq_getElem hlt, obs, obs, obs, w64_eq (x := (j : Int) + 1) (by omega) (by omega)]
      refine Ok.bif (fun h => ?_) (fun h => ?_)
      · refine ih (j + 1) (fun y hy => ?_) hlt (by omega)
        rw [← take_step hlt, List.mem_cons] at hy
        rcases hy with rfl | hy
        · exact h
        · exact hn y hy
      · refine ⟨_, rfl, j, rfl, hle, hn, fun y hy => ?_⟩
        rw [List.getElem?_eq_getElem hlt] at hy
        have := Option.some.inj hy; subst this
        exact h
    · have e1 : decide ((j : Int) < (out.length : Int)) = false := by simp; omega
      rw [e1, cfl, obs, cfl]
      exact ⟨_, rfl, j, rfl, hle, hn, fun y hy => by rw [List.getElem?_eq_none hge] at hy; cases hy⟩

theorem subl_take {α : Type} (l : List α) (j : Nat) : subl l 0 (j : Int) = l.take j := by simp [subl]
theorem subl_drop {α : Type} (l : List α) (j : Nat) : subl l (j : Int) (l.length : Int) = l.drop j := by
  simp [subl]
theorem subOk_of {n j m : Nat} (h : j ≤ m) (h2 : m ≤ n) : subOk n (j : Int) (m : Int) = true := by
  simp [subOk]; omega

theorem Sorted_loop (fu : Nat) (l : List ByteArray) (hl : l.length ≤ 100) (hf : l.length < fu) : ∀ (k : Nat) (out : List ByteArray) (i : Nat), rising out → (∀ y, y ∈ out ↔ y ∈ l.take i) → i ≤ l.length → l.length - i < k →
    Ok (fun out => rising out ∧ ∀ y, y ∈ out ↔ y ∈ l) (bonsairef7_Sorted.l0 fu l k out (i : Int)) := by
  intro k
  induction k with
  | zero => intro out i _ _ _ hk; omega
  | succ k ih =>
    intro out i hr hm hle hk
    unfold bonsairef7_Sorted.l0
    have hlen : out.length ≤ i := by
      have := nodup_len _ _ (rising_nodup hr) (fun y hy => (hm y).1 hy)
      simp at this; omega
    rcases Nat.lt_or_ge i l.length with hlt | hge
    · have e1 : decide ((i : Int) < (l.length : Int)) = true := by simp; omega
      have hx := List.getElem?_eq_getElem hlt
      have hstep := take_step hlt
      generalize l[i] = x at hx hstep
      rw [e1, ctr, w64_eq (x := (i : Int) + 1) (by omega) (by omega)]
      refine Ok.bind (P := fun o => rising o ∧ ∀ y, y ∈ o ↔ y ∈ l.take (i + 1)) ?_ (fun o ho => ih o (i + 1) ho.1 ho.2 hlt (by omega))
      have hs := Sorted_in fu l out i x hx (by omega) fu 0 (by simp) (Nat.zero_le _) (by omega)
      refine Ok.bind hs ?_
      rintro _ ⟨j, rfl, hj, ha, hb⟩
      by_cases hin : out[j]? = some x
      · have hjlt := (List.getElem?_eq_some_iff.1 hin).1
        have e2 : ((j : Int) == (out.length : Int)) = false := by rw [beq_eq_false_iff_ne]; omega
        rw [e2, cfl, idx_nat, idx_nat, hin, hx, obs, obs, beq_self_eq_true, Bool.not_true, obs, cfl]
        refine ⟨_, rfl, hr, fun y => ?_⟩
        rw [← hstep, List.mem_cons, ← hm y]
        exact ⟨.inr, fun h => h.elim (fun e => e ▸ List.mem_of_getElem? hin) id⟩
      · have e3 : (bif ((j : Int) == (out.length : Int)) then (some true) else ((idx out (j : Int)).bind fun x11655 => (idx l (i : Int)).bind fun x11664 => some (!(x11655.toList == x11664.toList)))) = some true := by
          rcases Nat.lt_or_ge j out.length with hjl | hjg
          · have e2 : ((j : Int) == (out.length : Int)) = false := by rw [beq_eq_false_iff_ne]; omega
            rw [List.getElem?_eq_getElem hjl] at hin
            rw [e2, cfl, idx_nat, idx_nat, hx, List.getElem?_eq_getElem hjl, obs, obs, bytes_cmp, decide_eq_false (fun e => hin (by rw [e]))]
            rfl
          · have e2 : ((j : Int) == (out.length : Int)) = true := by rw [beq_iff_eq]; omega
            rw [e2, ctr]
        rw [e3, obs, ctr, show (0 : Int) = ((0 : Nat) : Int) from rfl, subOk_of (Nat.zero_le _) hj, idx_nat, hx, subOk_of hj (Nat.le_refl _), show ((0 : Nat) : Int) = 0 from rfl, subl_take, subl_drop]
        have hz : (out.take j).length = j := by simp; omega
        have hz2 : (out.drop j).length = out.length - j := by simp
        rw [List.nil_append]
        simp only [guardB, ctr, obs]
        rw [roomy_of (by rw [hz]; simp only [List.length_nil]; omega), roomy_of (by rw [hz]; omega), roomy_of (by rw [List.length_append, hz, hz2]; simp only [List.length_singleton]; omega)]
        simp only [ctr, obs]
        have hcat : out.take j ++ [x] ++ out.drop j = out.take j ++ x :: out.drop j := by simp
        rw [hcat]
        refine ⟨_, rfl, rising_mid (by rw [List.take_append_drop]; exact hr) ha (fun y hy => ?_), fun y => ?_⟩
        · obtain ⟨q, hq⟩ := List.mem_iff_getElem?.1 hy
          rw [List.getElem?_drop] at hq
          have hjl : j < out.length := by have := (List.getElem?_eq_some_iff.1 hq).1; omega
          have h0 := hb _ (List.getElem?_eq_getElem hjl)
          rw [List.getElem?_eq_getElem hjl] at hin
          have h1 : Scal.lt x out[j] = true := lt_or h0 (fun e => hin (by rw [e]))
          rcases Nat.eq_zero_or_pos q with rfl | hq0
          · rw [Nat.add_zero, List.getElem?_eq_getElem hjl] at hq
            have := Option.some.inj hq; subst this; exact h1
          · exact Scal.tra _ _ _ h1 (rising_at hr (show j < j + q by omega) (List.getElem?_eq_getElem hjl) hq)
        · rw [← hstep, List.mem_cons, ← hm y, List.mem_append, List.mem_cons]
          conv => rhs; rw [← List.take_append_drop j out, List.mem_append]
          constructor
          · rintro (h | h | h)
            · exact .inr (.inl h)
            · exact .inl h
            · exact .inr (.inr h)
          · rintro (h | h | h)
            · exact .inr (.inl h)
            · exact .inl h
            · exact .inr (.inr h)
    · have e1 : decide ((i : Int) < (l.length : Int)) = false := by simp; omega
      rw [e1, cfl]
      rw [List.take_of_length_le hge] at hm
      exact ⟨_, rfl, hr, hm⟩
theorem Sorted_ok {fu : Nat} {l : List ByteArray} (hl : l.length ≤ 100) (hf : l.length < fu) : Ok (fun out => rising out ∧ ∀ y, y ∈ out ↔ y ∈ l) (bonsairef7_Sorted.fn fu l) := by
  unfold bonsairef7_Sorted.fn
  exact Ok.bind (Sorted_loop fu l hl hf fu [] 0 List.Pairwise.nil (fun y => by simp) (Nat.zero_le _) (by omega)) fun s hs => ⟨_, rfl, hs⟩

theorem known_true {fu : Nat} (h : 10 ≤ fu) : bonsailaw7_known.fn fu = some true := by
  suffices h : Ok (fun r => r = true) (bonsailaw7_known.fn fu) by obtain ⟨v, h, rfl⟩ := h; exact h
  unfold bonsailaw7_known.fn
  refine Ok.bind (New_string (by simp) (by simp; omega)) (fun s hs => Ok.bind (NewWork_int (by simp) (by simp; omega)) (fun w hw => ?_))
  have ht : w.todo = [1, 2] := rising_eq hw.1 (by unfold rising; decide) (fun y => (hw.2.1 y).trans (by simp [or_comm]))
  rw [Take_some_int ht, obs]
  have hw2 : IsWork ⟨[2], w.ever⟩ [2, 1] [2] := ⟨(show rising [2] by unfold rising; decide), fun y => Iff.rfl, hw.2.2⟩
  refine Ok.bind (Put_int (x := 1) hw2 (by simp) (by simp)) (fun p hp => ?_)
  have hp2 := hp.2.2 (by simp)
  have hp1 : p.1 = false := by cases h : p.1 with
    | false => rfl
    | true => exact absurd (by simp) (hp.1.1 h)
  refine Ok.bind (Again_int (x := 1) hp2.1 (by simp) (by simp)) (fun a ha => ?_)
  have ta : a.todo = [1, 2] := rising_eq ha.1 (by unfold rising; decide) (fun y => ha.2.1 y)
  have hl := hs.len
  have hab : Scal.lt (⟨#[97]⟩ : ByteArray) (⟨#[98]⟩ : ByteArray) = true := by
    show Op.bytesLess (ByteArray.toList _) (ByteArray.toList _) = true
    rw [ByteArray.toList_eq, ByteArray.toList_eq]; decide
  have hrab : rising [(⟨#[97]⟩ : ByteArray), ⟨#[98]⟩] := List.pairwise_cons.2 ⟨fun y hy => by rw [List.mem_singleton] at hy; subst hy; exact hab, List.pairwise_singleton _ _⟩
  have hsrt : srt s = [⟨#[97]⟩, ⟨#[98]⟩] := srt_of hs.1 hrab (fun y => (hs.2 y).trans (by simp; exact .inr))
  have hlen : s.length = 2 := by rw [← srt_len, hsrt]; rfl
  have hLen : set_Set_string_Len.fn s = some ((s.length : Int), s) := rfl
  rw [Take_some_int ta, obs, List_string s (by simp at hl; omega), obs, hLen, obs, hsrt, hlen]
  have e1 : ((2 : Nat) : Int) == 2 := rfl
  simp only [List.length_cons, List.length_nil]
  refine Ok.bind (P := fun b => b = true) ⟨_, rfl, rfl⟩ ?_
  rintro _ rfl
  refine Ok.bind (P := fun b => b = true) ⟨_, rfl, by simp⟩ ?_
  rintro _ rfl
  refine Ok.bind (P := fun b => b.2 = true ∧ b.1 = s) ?_ ?_
  · rw [ctr]
    obtain ⟨⟨u, v⟩, h1, h2, h3⟩ := Has_string hs (⟨#[98]⟩ : ByteArray)
    rw [h1]; exact ⟨_, rfl, h2.2 (by simp), h3⟩
  rintro ⟨_, _⟩ ⟨rfl, rfl⟩
  refine Ok.bind (P := fun b => b = true) ?_ ?_
  · rw [ctr]
    obtain ⟨⟨u, v⟩, h1, h2, h3⟩ := Add_string hs (x := (⟨#[97]⟩ : ByteArray)) (by simp)
    rw [h1]; refine ⟨_, rfl, ?_⟩
    show (!u) = true
    cases u with
    | false => rfl
    | true => exact absurd (by simp) (h2.1 rfl)
  rintro _ rfl
  rw [hp1]
  exact ⟨_, rfl, rfl⟩
end Go.Proofs.Ytdgpckcphkpclaa
