/- SetOrder: what it reckons is true. -/
import Derived.Test.YtdgpckcphkpclaaSv
import Derived.Test.YtdgpckcphkpclaaPureSet1
set_option linter.unusedVariables false
set_option linter.unusedSimpArgs false
namespace Go.Proofs.Ytdgpckcphkpclaa
open Go Go.Fw

theorem turn_loop (fu : Nat) (l : List Int) (t : Nat) (ht : t ≤ 255) (hl : l.length ≤ 100) : ∀ (k : Nat) (s m : List Int) (i : Nat), IsSet s m → m.length = i → (∀ y, y ∈ m ↔ ∃ j, j < i ∧ l[(j + t) % l.length]? = some y) → i ≤ l.length → l.length - i < k →
    Ok (fun s => ∃ m, IsSet s m ∧ m.length = l.length ∧ ∀ y, y ∈ m ↔ ∃ j, j < l.length ∧ l[(j + t) % l.length]? = some y) (bonsailaw7_SetOrder.l0 fu l (t : Int) k s (i : Int)) := by
  intro k
  induction k with
  | zero => intro s m i _ _ _ _ hk; omega
  | succ k ih =>
    intro s m i hs hm hy hle hk
    unfold bonsailaw7_SetOrder.l0
    rcases Nat.lt_or_ge i l.length with hlt | hge
    · have e1 : decide ((i : Int) < (l.length : Int)) = true := by simp; omega
      have e2 : ((l.length : Int) != 0) = true := by simp; intro e; rw [e] at hlt; simp at hlt
      have e3 : w64 ((i : Int) + w64 (t : Int)) = ((i + t : Nat) : Int) := by
        rw [w64_eq (x := (t : Int)) (by omega) (by omega), w64_eq (by omega) (by omega)]; omega
      have hlt2 := Nat.mod_lt (i + t) (show 0 < l.length by omega)
      rw [e1, ctr, e2, e3, ← Int.ofNat_tmod, idx_nat, List.getElem?_eq_getElem hlt2, w64_eq (x := (i : Int) + 1) (by omega) (by omega)]
      simp only [guardB, ctr, obs]
      refine Ok.bind (Add_int hs (by omega)) (fun r hr => ?_)
      refine ih r.2 (l[(i + t) % l.length] :: m) (i + 1) hr.2 (by simp; omega) (fun y => ?_) hlt (by omega)
      rw [List.mem_cons, hy y]
      constructor
      · rintro (rfl | ⟨j, h1, h2⟩)
        · exact ⟨i, by omega, List.getElem?_eq_getElem hlt2⟩
        · exact ⟨j, by omega, h2⟩
      · rintro ⟨j, h1, h2⟩
        by_cases hj : j = i
        · subst hj; rw [List.getElem?_eq_getElem hlt2] at h2; exact .inl (Option.some.inj h2).symm
        · exact .inr ⟨j, by omega, h2⟩
    · have e1 : decide ((i : Int) < (l.length : Int)) = false := by simp; omega
      obtain rfl : i = l.length := by omega
      rw [e1, cfl]
      exact ⟨_, rfl, m, hs, hm, hy⟩

theorem turn_all (l : List Int) (t : Nat) (y : Int) : (∃ j, j < l.length ∧ l[(j + t) % l.length]? = some y) ↔ y ∈ l := by
  constructor
  · rintro ⟨j, _, h⟩; exact List.mem_of_getElem? h
  · intro h
    obtain ⟨j, hj⟩ := List.mem_iff_getElem?.1 h
    have hlt := (List.getElem?_eq_some_iff.1 hj).1
    have hr := Nat.mod_lt t (show 0 < l.length by omega)
    refine ⟨(j + (l.length - t % l.length)) % l.length, Nat.mod_lt _ (by omega), ?_⟩
    have e : ((j + (l.length - t % l.length)) % l.length + t) % l.length = j := by
      rw [Nat.mod_add_mod]
      have h1 : t = t % l.length + l.length * (t / l.length) := (Nat.mod_add_div t l.length).symm
      have h2 : j + (l.length - t % l.length) + t = j + l.length * (t / l.length + 1) := by
        rw [Nat.mul_add]; omega
      rw [h2, Nat.add_mul_mod_self_left, Nat.mod_eq_of_lt hlt]
    rw [e]; exact hj

theorem rise_loop (fu : Nat) (x : List Int × List Int) (hx : rising x.1) (hl : x.1.length ≤ 1000) : ∀ (k i : Nat), 1 ≤ i → i ≤ x.1.length + 1 → x.1.length + 1 - i < k → bonsailaw7_SetOrder.l1 fu x k (i : Int) = some (.brk ()) := by
  intro k
  induction k with
  | zero => intro i _ _ hk; omega
  | succ k ih =>
    intro i h1 hle hk
    unfold bonsailaw7_SetOrder.l1
    rcases Nat.lt_or_ge i x.1.length with hlt | hge
    · have e1 : decide ((i : Int) < (x.1.length : Int)) = true := by simp; omega
      have e2 : w64 ((i : Int) - 1) = ((i - 1 : Nat) : Int) := by rw [w64_eq (by omega) (by omega)]; omega
      have hlt2 : i - 1 < x.1.length := by omega
      have h3 : Scal.lt x.1[i - 1] x.1[i] = true := rising_at hx (show i - 1 < i by omega) (List.getElem?_eq_getElem hlt2) (List.getElem?_eq_getElem hlt)
      have h4 : x.1[i - 1] < x.1[i] := of_decide_eq_true h3
      rw [e1, ctr, e2, idx_nat, idx_nat, List.getElem?_eq_getElem hlt, List.getElem?_eq_getElem hlt2, obs, obs, decide_eq_false (by omega), cfl, w64_eq (x := (i : Int) + 1) (by omega) (by omega)]
      exact ih (i + 1) (by omega) (by omega) (by omega)
    · have e1 : decide ((i : Int) < (x.1.length : Int)) = false := by simp; omega
      rw [e1, cfl]

theorem bonsailaw7_SetOrder_true (l : List Int) (hl0 : l.length ≤ maxLen) (hw : ∀ y ∈ l, (Lit.int .i64 y).wf = true) (p5 : Int) (w5 : (Lit.int .u8 p5).wf = true) : ∃ fu, bonsailaw7_SetOrder.fn fu l p5 = some true := by
  refine ⟨200, ?_⟩
  suffices h : Ok (fun r => r = true) (bonsailaw7_SetOrder.fn 200 l p5) by obtain ⟨v, h, rfl⟩ := h; exact h
  have hb := u8_bounds w5
  obtain ⟨t, rfl⟩ := Int.eq_ofNat_of_zero_le hb.1
  unfold bonsailaw7_SetOrder.fn
  rw [known_true (by decide), obs, Bool.not_true, cfl]
  refine Ok.bif (fun _ => ⟨_, rfl, rfl⟩) (fun hn => ?_)
  have hl : l.length ≤ 30 := by have := of_decide_eq_false hn; omega
  refine Ok.bind (New_int (by omega) (by omega)) (fun s hs => ?_)
  refine Ok.bind (New_int (by simp) (by simp)) (fun s0 hs0 => ?_)
  refine Ok.bind (turn_loop 200 l t (by omega) (by omega) 200 s0 [] 0 hs0 rfl (fun y => by simp) (Nat.zero_le _) (by omega)) ?_
  rintro u ⟨m, hu, hm, hy⟩
  have hu2 : IsSet u l := hu.congr fun y => (hy y).trans (turn_all l t y)
  have h1 := hs.len
  have h2 := hu2.len
  have he : srt u = srt s := srt_of hu2.1 (srt_rising hs.1) (fun y => (hu2.2 y).trans (((hs.2 y).symm).trans (srt_mem y).symm))
  rw [List_int s (by omega), obs, List_int u (by omega), obs]
  refine Ok.lthen (S := fun _ => True) ⟨_, rise_loop 200 (srt s, s) (srt_rising hs.1) (by simp only; rw [srt_len]; omega) 200 1 (Nat.le_refl _) (by omega) (by simp only; rw [srt_len]; omega), trivial⟩ (fun _ _ => ?_)
  have hL : ∀ s : List Int, set_Set_int_Len.fn s = some ((s.length : Int), s) := fun s => rfl
  have hlu : u.length = (srt s).length := by rw [← he, srt_len]
  simp only [he, hL]
  rw [Ints_refl (by rw [srt_len]; omega) (by rw [srt_len]; omega), obs, ctr, obs, hlu, srt_len]
  simp only [beq_self_eq_true, obs, ctr]
  exact ⟨_, rfl, rfl⟩
end Go.Proofs.Ytdgpckcphkpclaa
