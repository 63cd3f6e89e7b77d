/- SetTexts: what it reckons is true. -/
import Derived.Test.YtdgpckcphkpclaaSz
import Derived.Test.YtdgpckcphkpclaaPureSet1
set_option linter.unusedVariables false
set_option linter.unusedSimpArgs false
namespace Go.Proofs.Ytdgpckcphkpclaa
open Go Go.Fw

theorem texts_loop (fu : Nat) (x : List ByteArray × List ByteArray) (l : List ByteArray) (hx : rising x.1) (hxl : ∀ y, y ∈ x.1 ↔ y ∈ l) (hl : x.1.length ≤ 1000) (hll : l.length ≤ 1000) : ∀ (k : Nat) (s : List ByteArray) (w : WorkV ByteArray) (i : Nat), IsSet s l → w.todo = x.1.drop i → i ≤ x.1.length → x.1.length - i < k →
    Ok (LRp (fun r : List ByteArray × WorkV ByteArray => r.2.todo = [] ∧ IsSet r.1 l) (fun _ => False)) (bonsailaw7_SetTexts.l0 fu x k s w (i : Int)) := by
  intro k
  induction k with
  | zero => intro s w i _ _ _ hk; omega
  | succ k ih =>
    intro s w i hs hw hle hk
    unfold bonsailaw7_SetTexts.l0
    rcases Nat.lt_or_ge i x.1.length with hlt | hge
    · have e1 : decide ((i : Int) < (x.1.length : Int)) = true := by simp; omega
      rw [List.drop_eq_getElem_cons hlt] at hw
      have hi := List.getElem?_eq_getElem hlt
      have hmem : x.1[i] ∈ l := (hxl _).1 (List.getElem_mem hlt)
      have e2 : (bif decide ((i : Int) > 0) then ((idx x.1 (i : Int)).bind fun x1593 => (idx x.1 (w64 ((i : Int) - 1))).bind fun x1603 => some (Op.bytesLess x1593.toList x1603.toList || x1593.toList == x1603.toList)) else (some false)) = some false := by
        rcases Nat.eq_zero_or_pos i with rfl | hp
        · rfl
        · have e3 : w64 ((i : Int) - 1) = ((i - 1 : Nat) : Int) := by rw [w64_eq (by omega) (by omega)]; omega
          have hlt2 : i - 1 < x.1.length := by omega
          have h3 : Scal.lt x.1[i - 1] x.1[i] = true := rising_at hx (show i - 1 < i by omega) (List.getElem?_eq_getElem hlt2) hi
          have h4 : Op.bytesLess x.1[i].toList x.1[i - 1].toList = false := lt_asym h3
          rw [decide_eq_true (by omega), ctr, e3, idx_nat, idx_nat, hi, List.getElem?_eq_getElem hlt2, obs, obs, h4, bytes_cmp, decide_eq_false (fun e => lt_ne h3 e.symm)]
          rfl
      rw [e1, ctr, e2, obs, cfl, Take_some_string hw, obs, idx_nat, hi, Bool.not_true, cfl, obs, beq_self_eq_true, Bool.not_true, obs, cfl, obs]
      generalize x.1[i] = z at hmem
      obtain ⟨⟨u, v⟩, h1, h2, h3⟩ := Has_string hs z
      have hu : u = true := h2.2 hmem
      subst hu; simp only at h3; subst h3
      rw [h1, obs, Bool.not_true]
      rw [obs]
      simp only [cfl, obs]
      obtain ⟨⟨u, v⟩, h4, h5, h6⟩ := Add_string hs (x := z) hll
      have hu : u = false := by cases u with
        | false => rfl
        | true => exact absurd hmem (h5.1 rfl)
      subst hu
      rw [h4, obs, obs]
      simp only [cfl]
      rw [w64_eq (x := (i : Int) + 1) (by omega) (by omega)]
      refine ih v ⟨_, w.ever⟩ (i + 1) (h6.congr fun y => ?_) rfl hlt (by omega)
      rw [List.mem_cons]
      exact ⟨fun h => h.elim (fun e => e ▸ hmem) id, .inr⟩
    · have e1 : decide ((i : Int) < (x.1.length : Int)) = false := by simp; omega
      rw [List.drop_eq_nil_of_le hge] at hw
      rw [e1, cfl]
      exact ⟨_, rfl, hw, hs⟩

theorem bonsailaw7_SetTexts_true (l : List ByteArray) (hl0 : l.length ≤ maxLen) (hw : ∀ y ∈ l, y.size ≤ maxLen) : ∃ fu, bonsailaw7_SetTexts.fn fu l = some true := by
  refine ⟨200, ?_⟩
  suffices h : Ok (fun r => r = true) (bonsailaw7_SetTexts.fn 200 l) by obtain ⟨v, h, rfl⟩ := h; exact h
  unfold bonsailaw7_SetTexts.fn
  rw [known_true (by decide), obs, Bool.not_true, cfl]
  refine Ok.bif (fun _ => ⟨_, rfl, rfl⟩) (fun hn => ?_)
  have hl : l.length ≤ 20 := by have := of_decide_eq_false hn; omega
  refine Ok.bind (New_string (by omega) (by omega)) (fun s hs => ?_)
  refine Ok.bind (NewWork_string (by omega) (by omega)) (fun w hw => ?_)
  have hsl := hs.len
  rw [List_string s (by omega), obs]
  have hm : ∀ y, y ∈ srt s ↔ y ∈ l := fun y => (srt_mem y).trans (hs.2 y)
  have ht : w.todo = srt s := rising_eq hw.1 (srt_rising hs.1) (fun y => (hw.2.1 y).trans (hm y).symm)
  refine Ok.lthen ((texts_loop 200 (srt s, s) l (srt_rising hs.1) hm (by simp only; rw [srt_len]; omega) (by omega) 200 s w 0 hs ht (Nat.zero_le _) (by simp only; rw [srt_len]; omega)).mono (Q := LRp (fun r : List ByteArray × WorkV ByteArray => r.2.todo = [] ∧ IsSet r.1 l) (fun r => r = true)) (fun v hv => by cases v with
      | brk s => exact hv
      | ret r => exact hv.elim)) (fun u hu => ?_)
  have hul := hu.2.len
  rw [Take_none_string hu.1, obs]
  simp only [Bool.not_false, ctr]
  rw [List_string u.1 (by omega), obs]
  obtain ⟨out, h1, h2, h3⟩ := Sorted_ok (fu := 200) (l := l) (by omega) (by omega)
  have he : srt u.1 = out := rising_eq (srt_rising hu.2.1) h2 (fun y => ((srt_mem y).trans (hu.2.2 y)).trans (h3 y).symm)
  have hlo : out.length ≤ 30 := by rw [← he, srt_len]; omega
  rw [h1, obs, he]
  dsimp only
  rw [Strings_refl (by omega) (by omega), obs]
  exact ⟨_, rfl, rfl⟩
end Go.Proofs.Ytdgpckcphkpclaa
