/- SetDrains: what it reckons is true. -/
import Derived.Test.YtdgpckcphkpclaaSx
import Derived.Test.YtdgpckcphkpclaaPureSet1
set_option linter.unusedVariables false
set_option linter.unusedSimpArgs false
namespace Go.Proofs.Ytdgpckcphkpclaa
open Go Go.Fw

theorem drain_loop (fu : Nat) (x : List Int × List Int) (hl : x.1.length ≤ 1000) (e : List Int) : ∀ (k : Nat) (w : WorkV Int) (i : Nat), w.todo = x.1.drop i → IsSet w.ever e → i ≤ x.1.length → x.1.length - i < k →
    Ok (LRp (fun w : WorkV Int => w.todo = [] ∧ IsSet w.ever e) (fun _ => False)) (bonsailaw7_SetDrains.l0 fu x k w (i : Int)) := by
  intro k
  induction k with
  | zero => intro w i _ _ _ hk; omega
  | succ k ih =>
    intro w i hw hs hle hk
    unfold bonsailaw7_SetDrains.l0
    rcases Nat.lt_or_ge i x.1.length with hlt | hge
    · have e1 : decide ((i : Int) < (x.1.length : Int)) = true := by simp; omega
      rw [List.drop_eq_getElem_cons hlt] at hw
      rw [e1, ctr, Take_some_int hw, obs, idx_nat, List.getElem?_eq_getElem hlt, Bool.not_true, cfl, obs, bne_self_eq_false, obs, cfl, w64_eq (x := (i : Int) + 1) (by omega) (by omega)]
      exact ih ⟨_, w.ever⟩ (i + 1) rfl hs hlt (by omega)
    · have e1 : decide ((i : Int) < (x.1.length : Int)) = false := by simp; omega
      rw [List.drop_eq_nil_of_le hge] at hw
      rw [e1, cfl]
      exact ⟨_, rfl, hw, hs⟩

theorem again_loop (fu : Nat) (l a : List Int) (ha : ∀ y ∈ a, 0 ≤ y ∧ y ≤ 255) (hl : l.length ≤ 100) (hla : a.length ≤ 100) : ∀ (k : Nat) (w : WorkV Int) (i : Nat), IsWork w l [] → i ≤ a.length → a.length - i < k →
    Ok (LRp (fun w : WorkV Int => w.todo = []) (fun _ => False)) (bonsailaw7_SetDrains.l1 fu l a k w (i : Int)) := by
  intro k
  induction k with
  | zero => intro w i _ _ hk; omega
  | succ k ih =>
    intro w i hw hle hk
    unfold bonsailaw7_SetDrains.l1
    have hnil : w.todo = [] := List.eq_nil_iff_forall_not_mem.2 fun y hy => by have := (hw.2.1 y).1 hy; cases this
    by_cases hb : i < a.length ∧ 0 < l.length
    · obtain ⟨hlt, h0⟩ := hb
      have e1 : decide ((i : Int) < (a.length : Int)) = true := by simp; omega
      have e2 : decide ((l.length : Int) > 0) = true := by simp; omega
      have e3 : ((l.length : Int) != 0) = true := by simp; intro e; rw [e] at h0; simp at h0
      rw [e1, e2, ctr, obs, ctr, idx_nat, List.getElem?_eq_getElem hlt, obs, e3, w64_eq (x := (i : Int) + 1) (by omega) (by omega)]
      have hr := ha _ (List.getElem_mem hlt)
      generalize a[i] = z at hr
      have ht := tmod_nn (a := z) (b := (l.length : Int)) hr.1 (by omega)
      rw [w64_eq (x := z) (by omega) (by omega)]
      obtain ⟨x, hx, hm⟩ := idx_of (l := l) ht.1 ht.2
      rw [hx]
      simp only [guardB, ctr, obs]
      refine Ok.bind (Put_int (x := x) hw (by omega) (by simp)) (fun p hp => ?_)
      obtain ⟨hpw, hpe⟩ := hp.2.2 hm.2
      have hp1 : p.1 = false := by cases h : p.1 with
        | false => rfl
        | true => exact absurd hm.2 (hp.1.1 h)
      rw [hp1, cfl]
      refine Ok.bind (Again_int (x := x) hpw (by omega) (by simp)) (fun u hu => ?_)
      refine Ok.bind (Again_int (x := x) hu (by rw [List.length_cons]; omega) (by simp)) (fun v hv => ?_)
      have htv : v.todo = [x] := rising_eq hv.1 (List.pairwise_singleton _ _) (fun y => (hv.2.1 y).trans (by simp))
      rw [Take_some_int htv, obs, Bool.not_true, cfl, bne_self_eq_false, obs, cfl]
      refine ih ⟨[], v.ever⟩ (i + 1) ⟨List.Pairwise.nil, fun y => Iff.rfl, hv.2.2.congr fun y => ?_⟩ hlt (by omega)
      simp only [List.mem_cons]
      exact ⟨fun h => h.elim (fun e => e ▸ hm.2) fun h => h.elim (fun e => e ▸ hm.2) id, fun h => .inr (.inr h)⟩
    · have e1 : (bif decide ((i : Int) < (a.length : Int)) then (some (decide ((l.length : Int) > 0))) else (some false)) = some false := by
        by_cases hlt : i < a.length
        · have e2 : decide ((l.length : Int) > 0) = false := decide_eq_false (by omega)
          rw [decide_eq_true (by omega), ctr, e2]
        · rw [decide_eq_false (by omega), cfl]
      rw [e1, obs, cfl]
      exact ⟨_, rfl, hnil⟩

theorem bonsailaw7_SetDrains_true (l : List Int) (hl0 : l.length ≤ maxLen) (hw : ∀ y ∈ l, (Lit.int .i64 y).wf = true) (a : List Int) (ha0 : a.length ≤ maxLen) (ha : ∀ y ∈ a, (Lit.int .u8 y).wf = true) : ∃ fu, bonsailaw7_SetDrains.fn fu l a = some true := by
  refine ⟨200, ?_⟩
  suffices h : Ok (fun r => r = true) (bonsailaw7_SetDrains.fn 200 l a) by obtain ⟨v, h, rfl⟩ := h; exact h
  unfold bonsailaw7_SetDrains.fn
  rw [known_true (by decide), obs, Bool.not_true, cfl]
  by_cases hb : l.length ≤ 30 ∧ a.length ≤ 10
  · have e1 : (bif decide ((l.length : Int) > 30) then some true else some (decide ((a.length : Int) > 10))) = some false := by
      rw [decide_eq_false (by omega), cfl, decide_eq_false (by omega)]
    rw [e1, obs, cfl]
    refine Ok.bind (NewWork_int (by omega) (by omega)) (fun w hw => ?_)
    refine Ok.bind (New_int (by omega) (by omega)) (fun s hs => ?_)
    have hsl := hs.len
    rw [List_int s (by omega), obs]
    have ht : w.todo = srt s := rising_eq hw.1 (srt_rising hs.1) (fun y => (hw.2.1 y).trans (((hs.2 y).symm).trans (srt_mem y).symm))
    refine Ok.lthen ((drain_loop 200 (srt s, s) (by simp only; rw [srt_len]; omega) l 200 w 0 ht hw.2.2 (Nat.zero_le _) (by simp only; rw [srt_len]; omega)).mono (Q := LRp (fun w : WorkV Int => w.todo = [] ∧ IsSet w.ever l) (fun r => r = true)) (fun v hv => by cases v with
      | brk s => exact hv
      | ret r => exact hv.elim)) (fun u hu => ?_)
    rw [Take_none_int hu.1, obs, cfl]
    refine Ok.lthen ((again_loop 200 l a (fun y hy => u8_bounds (ha y hy)) (by omega) (by omega) 200 u 0 ⟨by rw [hu.1]; exact List.Pairwise.nil, fun y => by rw [hu.1], hu.2⟩ (Nat.zero_le _) (by omega)).mono (Q := LRp (fun w : WorkV Int => w.todo = []) (fun r => r = true)) (fun v hv => by cases v with
      | brk s => exact hv
      | ret r => exact hv.elim)) (fun v hv => ?_)
    rw [Take_none_int hv, obs]
    exact ⟨_, rfl, rfl⟩
  · have e1 : (bif decide ((l.length : Int) > 30) then some true else some (decide ((a.length : Int) > 10))) = some true := by
      by_cases h : l.length ≤ 30
      · rw [decide_eq_false (by omega), cfl, decide_eq_true (by omega)]
      · rw [decide_eq_true (by omega), ctr]
    rw [e1, obs, ctr]
    exact ⟨_, rfl, rfl⟩
end Go.Proofs.Ytdgpckcphkpclaa
