/- Sets and work of int: what each call comes to. -/
import Derived.Test.YtdgpckcphkpclaaSw
import Derived.Test.YtdgpckcphkpclaaPureSet0
set_option linter.unusedVariables false
set_option linter.unusedSimpArgs false
namespace Go.Proofs.Ytdgpckcphkpclaa
open Go Go.Fw

theorem Add_int {s l : List Int} {x : Int} (h : IsSet s l) (hl : l.length ≤ 1000) : Ok (fun r => (r.1 = true ↔ x ∉ l) ∧ IsSet r.2 (x :: l)) (set_Set_int_Add.fn s x) := by
  unfold set_Set_int_Add.fn
  by_cases hx : x ∈ s
  · have h1 : x ∈ l := (h.2 x).1 hx
    rw [decide_eq_true hx, ctr]
    exact ⟨_, rfl, ⟨(fun h => nomatch h), fun h => absurd h1 h⟩, h.again h1⟩
  · have h1 : x ∉ l := fun h2 => hx ((h.2 x).2 h2)
    have h2 : Nat.blt s.length maxLen = true := by
      have := h.len; rw [Nat.blt_eq]; unfold maxLen; omega
    rw [decide_eq_false hx, cfl, h2]
    exact ⟨_, rfl, ⟨fun _ => h1, fun _ => rfl⟩, h.add h1⟩
theorem Has_int {s l : List Int} (h : IsSet s l) (x : Int) : Ok (fun r => (r.1 = true ↔ x ∈ l) ∧ r.2 = s) (set_Set_int_Has.fn s x) :=
  ⟨_, rfl, by rw [decide_eq_true_eq]; exact h.2 x, rfl⟩
theorem List_int (s : List Int) (h : s.length ≤ 1000) : set_Set_int_List.fn s = some (srt s, s) := by
  unfold set_Set_int_List.fn
  rw [roomy_of (by omega)]; rfl
theorem New_loop_int (fu : Nat) (l : List Int) (hl : l.length ≤ 100) : ∀ (k : Nat) (s : List Int) (i : Nat), IsSet s (l.take i) → i ≤ l.length → l.length - i < k → Ok (fun s => IsSet s l) (set_New_int.l0 fu l k s (i : Int)) := by
  intro k
  induction k with
  | zero => intro s i _ _ hk; omega
  | succ k ih =>
    intro s i hs hle hk
    unfold set_New_int.l0
    rcases Nat.lt_or_ge i l.length with hlt | hge
    · have e1 : decide ((i : Int) < (l.length : Int)) = true := by simp; omega
      rw [e1, ctr, idx_nat, List.getElem?_eq_getElem hlt, obs, w64_eq (x := (i : Int) + 1) (by omega) (by omega)]
      refine Ok.bind (Add_int hs (by simp; omega)) (fun r hr => ?_)
      exact ih r.2 (i + 1) (hr.2.congr (take_step hlt)) hlt (by omega)
    · have e1 : decide ((i : Int) < (l.length : Int)) = false := by simp; omega
      rw [e1, cfl]
      rw [List.take_of_length_le hge] at hs
      exact ⟨_, rfl, hs⟩
theorem New_int {fu : Nat} {l : List Int} (hl : l.length ≤ 100) (hf : l.length < fu) : Ok (fun s => IsSet s l) (set_New_int.fn fu l) := by
  unfold set_New_int.fn
  exact Ok.bind (New_loop_int fu l hl fu [] 0 IsSet.nil (Nat.zero_le _) (by omega)) fun s hs => ⟨_, rfl, hs⟩

theorem Again_int {w : WorkV Int} {e t : List Int} {x : Int} (h : IsWork w e t) (he : e.length ≤ 1000) (ht : t.length ≤ 1000) : Ok (fun w' => IsWork w' (x :: e) (x :: t)) (set_Work_int_Again.fn w x) := by
  unfold set_Work_int_Again.fn
  refine Ok.bind (Add_int h.2.2 he) (fun r hr => ?_)
  have := h.len
  rw [roomy_of (by omega)]
  refine ⟨_, rfl, ?_⟩
  by_cases hx : x ∈ w.todo
  · rw [decide_eq_true hx, ctr]
    refine ⟨h.1, fun y => ?_, hr.2⟩
    constructor
    · exact fun h1 => List.mem_cons_of_mem _ ((h.2.1 y).1 h1)
    · intro h1; rcases List.mem_cons.1 h1 with rfl | h1
      · exact hx
      · exact (h.2.1 y).2 h1
  · rw [decide_eq_false hx, cfl]
    refine ⟨rising_ins h.1 hx, fun y => ?_, hr.2⟩
    show y ∈ w.todo.insertIdx _ x ↔ _
    rw [List.mem_insertIdx (List.countP_le_length ..), List.mem_cons, h.2.1 y]
theorem Put_int {w : WorkV Int} {e t : List Int} {x : Int} (h : IsWork w e t) (he : e.length ≤ 1000) (ht : t.length ≤ 1000) : Ok (fun r => (r.1 = true ↔ x ∉ e) ∧ (x ∉ e → IsWork r.2 (x :: e) (x :: t)) ∧ (x ∈ e → IsWork r.2 e t ∧ r.2 = w)) (set_Work_int_Put.fn w x) := by
  unfold set_Work_int_Put.fn
  obtain ⟨⟨b, s⟩, h1, h2, h3⟩ := Has_int h.2.2 x
  simp only at h2 h3
  subst h3
  rw [h1, obs]
  cases b with
  | true =>
    have hx : x ∈ e := h2.1 rfl
    rw [ctr]
    exact ⟨_, rfl, ⟨(fun h => nomatch h), fun h => absurd hx h⟩, fun h => absurd hx h, fun _ => ⟨h, rfl⟩⟩
  | false =>
    have hx : x ∉ e := fun hx => nomatch h2.2 hx
    rw [cfl]
    refine Ok.bind (Again_int (x := x) (show IsWork ⟨w.todo, w.ever⟩ e t from h) he ht) (fun y hy => ?_)
    exact ⟨_, rfl, ⟨fun _ => hx, fun _ => rfl⟩, fun _ => hy, fun h => absurd h hx⟩
theorem NewWork_loop_int (fu : Nat) (l : List Int) (hl : l.length ≤ 100) : ∀ (k : Nat) (w : WorkV Int) (i : Nat), IsWork w (l.take i) (l.take i) → i ≤ l.length → l.length - i < k → Ok (fun w => IsWork w l l) (set_NewWork_int.l0 fu l k w (i : Int)) := by
  intro k
  induction k with
  | zero => intro s i _ _ hk; omega
  | succ k ih =>
    intro s i hs hle hk
    unfold set_NewWork_int.l0
    rcases Nat.lt_or_ge i l.length with hlt | hge
    · have e1 : decide ((i : Int) < (l.length : Int)) = true := by simp; omega
      rw [e1, ctr, idx_nat, List.getElem?_eq_getElem hlt, obs, w64_eq (x := (i : Int) + 1) (by omega) (by omega)]
      refine Ok.bind (Put_int (x := l[i]) hs (by simp; omega) (by simp; omega)) (fun r hr => ?_)
      refine ih r.2 (i + 1) ?_ hlt (by omega)
      by_cases hx : l[i] ∈ l.take i
      · have h1 := (hr.2.2 hx).1
        have h2 : ∀ y, y ∈ l.take i ↔ y ∈ l.take (i + 1) := fun y => by
          rw [← take_step hlt, List.mem_cons]
          exact ⟨.inr, fun h => h.elim (fun e => e ▸ hx) id⟩
        exact h1.congr h2 h2
      · exact (hr.2.1 hx).congr (take_step hlt) (take_step hlt)
    · have e1 : decide ((i : Int) < (l.length : Int)) = false := by simp; omega
      rw [e1, cfl]
      rw [List.take_of_length_le hge] at hs
      exact ⟨_, rfl, hs⟩
theorem NewWork_int {fu : Nat} {l : List Int} (hl : l.length ≤ 100) (hf : l.length < fu) : Ok (fun w => IsWork w l l) (set_NewWork_int.fn fu l) := by
  unfold set_NewWork_int.fn
  refine Ok.bind (New_int (l := []) (by simp) (by simp; omega)) (fun s hs => ?_)
  exact Ok.bind (NewWork_loop_int fu l hl fu ⟨[], s⟩ 0 ⟨List.Pairwise.nil, fun y => Iff.rfl, hs⟩ (Nat.zero_le _) (by omega)) fun s hs => ⟨_, rfl, hs⟩
theorem Take_none_int {w : WorkV Int} (h : w.todo = []) : set_Work_int_Take.fn w = some (0, false, w) := by
  unfold set_Work_int_Take.fn; rw [h]
theorem Take_some_int {w : WorkV Int} {x : Int} {r : List Int} (h : w.todo = x :: r) : set_Work_int_Take.fn w = some (x, true, ⟨r, w.ever⟩) := by
  unfold set_Work_int_Take.fn; rw [h]
end Go.Proofs.Ytdgpckcphkpclaa
