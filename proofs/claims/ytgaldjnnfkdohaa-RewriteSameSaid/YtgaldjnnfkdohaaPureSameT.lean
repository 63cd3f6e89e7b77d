/- What RewriteSame reckons is true, whatever it is told: the law. -/
import Derived.Test.YtgaldjnnfkdohaaFh
import Derived.Test.YtgaldjnnfkdohaaPureCom
set_option linter.unusedVariables false
set_option linter.unusedSimpArgs false
namespace Go.Proofs.Ytgaldjnnfkdohaa
open Go Go.Fw

/-- each stands for itself -/
def Selfs (C : List api_Instr) (w : List (List api_Instr)) : Prop := w.length = C.length ∧ ∀ (q : Nat) (h : q < C.length), w[q]? = some [] ∨ w[q]? = some [C[q]]

theorem same_l0 (fu : Nat) (m : api_Method) (hn : m.Code.length ≤ 100000) : ∀ (d k i : Nat) (w : List (List api_Instr)), m.Code.length - i ≤ d → d < k → i ≤ m.Code.length → Selfs m.Code w →
    Ok (Selfs m.Code) (bonsailaw19_RewriteSame.l0 fu m k w i) := by
  intro d
  induction d with
  | zero =>
    intro k i w hi hk hin hw
    obtain ⟨k, rfl⟩ : ∃ q, k = q + 1 := ⟨k - 1, by omega⟩
    have e : i = m.Code.length := by omega
    subst e
    unfold bonsailaw19_RewriteSame.l0
    rw [show decide (((m.Code.length : Nat) : Int) < (w.length : Int)) = false by rw [hw.1]; simp]
    exact Ok.some hw
  | succ d ih =>
    intro k i w hi hk hin hw
    obtain ⟨k, rfl⟩ : ∃ q, k = q + 1 := ⟨k - 1, by omega⟩
    by_cases e : i = m.Code.length
    · subst e
      unfold bonsailaw19_RewriteSame.l0
      rw [show decide (((m.Code.length : Nat) : Int) < (w.length : Int)) = false by rw [hw.1]; simp]
      exact Ok.some hw
    have hlt : i < m.Code.length := by omega
    unfold bonsailaw19_RewriteSame.l0
    rw [show decide ((i : Int) < (w.length : Int)) = true by rw [hw.1]; simp; omega, w64_eq (x := (i : Int) + 1) (by omega) (by omega)]
    refine Ok.bind (P := Selfs m.Code) (Ok.bif (fun _ => ?_) (fun _ => Ok.some hw)) (fun w' hw' => ?_)
    · simp only [idx_nat, List.getElem?_eq_getElem hlt, Option.bind_some, Int.toNat_natCast]
      have hwl : i < w.length := by rw [hw.1]; exact hlt
      rw [List.getElem?_eq_getElem hwl]
      refine Ok.some ⟨by rw [List.length_set]; exact hw.1, fun q hq => ?_⟩
      by_cases e : i = q
      · subst e; right; simp [hwl]
      · rw [List.getElem?_set_ne e]; exact hw.2 q hq
    · have := ih k (i + 1) w' (by omega) (by omega) (by omega) hw'
      rw [show ((i + 1 : Nat) : Int) = (i : Int) + 1 by omega] at this
      exact this

theorem cat_selfs {m : api_Method} {w : List (List api_Instr)} (hw : Selfs m.Code w) : ∀ q, q ≤ m.Code.length → cat m w q = m.Code.take q := by
  intro q
  induction q with
  | zero => intro _; rfl
  | succ q ih =>
    intro hq
    rw [cat_succ, ih (by omega), List.take_succ_eq_append_getElem (by omega)]
    congr 1
    rcases hw.2 q (by omega) with h | h
    · rw [seg_plain (.inl h), List.getElem?_eq_getElem (by omega)]; rfl
    · rw [seg_full h rfl]

theorem rew_selfs {fu : Nat} {m : api_Method} {w : List (List api_Instr)} (hfu : 100001 < fu) (hn : m.Code.length ≤ 1990) (hh : m.Handlers.length ≤ 100000) (hj : jumpsIn m.Code.length m.Code) (hH : handsIn m.Code.length m.Handlers) (hw : Selfs m.Code w) :
    rewrite_Method.fn fu m w = some (m, true) := by
  have hlen : ∀ q, q ≤ m.Code.length → (cat m w q).length = q := fun q hq => by rw [cat_selfs hw q hq]; simp; omega
  have hall : cat m w m.Code.length = m.Code := by rw [cat_selfs hw _ (Nat.le_refl _)]; simp
  rw [rew_eq fu m w (by omega) (by rw [hall]; omega) hh hfu, hall]
  rw [if_pos ⟨List.all_eq_true.2 (fun x hx => inR_of (hj x hx)), List.all_eq_true.2 (fun x hx => handR_of (hH x hx)), by omega⟩]
  have e1 : m.Code.map (fixI m w) = m.Code := by
    rw [List.map_congr_left (g := id) (fun x hx => ?_), List.map_id]
    unfold fixI
    cases hb : jumpB x with
    | false => rfl
    | true =>
      have := hj x hx hb
      simp only [cond_true]
      rw [hlen _ (by omega)]
      rw [Int.toNat_of_nonneg this.1]; rfl
  have e2 : m.Handlers.map (fixH m w) = m.Handlers := by
    rw [List.map_congr_left (g := id) (fun x hx => ?_), List.map_id]
    have := hH x hx
    unfold fixH
    rw [hlen _ (by omega), hlen _ (by omega), hlen _ (by omega), Int.toNat_of_nonneg this.1, Int.toNat_of_nonneg this.2.2.1, Int.toNat_of_nonneg this.2.2.2.2.1]; rfl
  rw [e1, e2]

theorem cat_far {m : api_Method} {w : List (List api_Instr)} {j : api_Instr} (hn : 0 < m.Code.length) (hw : Selfs m.Code w) : ∀ q, q < m.Code.length → ∃ r, cat m (w.set 0 [j]) (q + 1) = j :: r ∧ r.length = q := by
  intro q
  induction q with
  | zero =>
    intro _
    refine ⟨[], ?_, rfl⟩
    rw [cat_succ, seg_full (s := [j]) (by rw [List.getElem?_set_self (by rw [hw.1]; exact hn)]) rfl]
    rfl
  | succ q ih =>
    intro hq
    obtain ⟨r, h1, h2⟩ := ih (by omega)
    have hs : seg m (w.set 0 [j]) (q + 1) = [m.Code[q + 1]] := by
      have h3 : (w.set 0 [j])[q + 1]? = w[q + 1]? := by rw [List.getElem?_set_ne (by omega)]
      rcases hw.2 (q + 1) hq with h | h
      · rw [seg_plain (.inl (h3.trans h)), List.getElem?_eq_getElem hq]; rfl
      · rw [seg_full (h3.trans h) rfl]
    exact ⟨r ++ [m.Code[q + 1]], by rw [cat_succ, h1, hs]; rfl, by simp [h2]⟩

theorem rew_far {fu : Nat} {m : api_Method} {w : List (List api_Instr)} {j : api_Instr} (hfu : 100001 < fu) (hn0 : 0 < m.Code.length) (hn : m.Code.length ≤ 1990) (hh : m.Handlers.length ≤ 100000) (hw : Selfs m.Code w) (hj : jumpB j = true) (hk : j.K = m.Code.length) :
    rewrite_Method.fn fu m (w.set 0 [j]) = some (zeroM, false) := by
  obtain ⟨r, h1, h2⟩ := cat_far (j := j) hn0 hw (m.Code.length - 1) (by omega)
  rw [show m.Code.length - 1 + 1 = m.Code.length by omega] at h1
  rw [rew_eq fu m _ (by omega) (by rw [h1]; simp [h2]; omega) hh hfu]
  rw [if_neg]
  rintro ⟨h3, _⟩
  rw [h1, List.all_cons] at h3
  have : inR m.Code.length j = false := by unfold inR; rw [hj, hk]; simp; omega
  rw [this] at h3; cases h3

theorem bonsailaw19_RewriteSame_true (k : Arr4_uint8) (hk : GoOpen.wf Try.prog 68 k) (l : List Int) (hl : l.length ≤ maxLen) (hw : ∀ y ∈ l, GoOpen.wf Try.prog 5 y) (a : Int) (wa : (Lit.int .u8 a).wf = true) (far : Bool) :
    ∃ fu, bonsailaw19_RewriteSame.fn fu k l a far = some true := by
  refine ⟨200000, ?_⟩
  unfold bonsailaw19_RewriteSame.fn
  rw [known19]
  simp only [Option.bind_some, Bool.not_true, cond_false]
  by_cases h40 : (l.length : Int) > 40
  · rw [show decide ((l.length : Int) > 40) = true by simpa using h40]; rfl
  rw [show decide ((l.length : Int) > 40) = false by simpa using h40]
  simp only [cond_false]
  obtain ⟨wk0, wk1, wk2, wk3⟩ := hk
  have ba := u8_bounds wa
  obtain ⟨z, hz, oz⟩ := archive_ok 200000 (by omega) k (u8_bounds wk0).1 (u8_bounds wk3).1 l [] (by omega) (fun y hy => (u8_bounds (hw y hy)).1) (by simp) (fun y hy => by cases hy)
  rw [hz]
  simp only [Option.bind_some]
  rw [w64_eq (x := a) (by omega) (by omega), oz.len]
  have hi := tmod_nn ba.1 (show (0 : Int) < ((13 : Nat) : Int) by decide)
  obtain ⟨c, hc, _, hmem⟩ := idx_of (l := z.Classes) (i := Int.tmod a ((13 : Nat) : Int)) hi.1 (by rw [oz.len]; exact hi.2)
  rw [show (((13 : Nat) : Int) != 0) = true from rfl]
  simp only [guardB, cond_true]
  rw [hc]
  simp only [Option.bind_some]
  have hms := oz.all c hmem
  cases hl : c.Methods with
  | nil => rfl
  | cons m r =>
    rw [show (((m :: r).length : Int) == 0) = false by rw [beq_eq_false_iff_ne]; simp; omega]
    have i0 : idx (m :: r) 0 = some m := rfl
    simp only [cond_false, i0, Option.bind_some]
    cases hab : m.Abstract with
    | true => rfl
    | false =>
      simp only [cond_false]
      have ok : MOk m := by
        rcases hms.2 m (by rw [hl]; exact List.mem_cons_self ..) with h | h
        · rw [hab] at h; cases h
        · exact h
      obtain ⟨n0, n1, n2, n3, hj, hH⟩ := lens_of ok
      rw [mayMake_of (n := (m.Code.length : Int)) (by omega) (by omega)]
      simp only [cond_true, Int.toNat_natCast]
      rw [show (GoZero.zero 64 (α := List api_Instr)) = [] from rfl]
      obtain ⟨w, hw0, hw⟩ := same_l0 200000 m (by omega) m.Code.length 200000 0 (List.replicate m.Code.length []) (by omega) (by omega) (by omega) ⟨by simp, fun q hq => .inl (rep_get hq)⟩
      rw [show (0 : Int) = ((0 : Nat) : Int) from rfl, hw0]
      simp only [Option.bind_some]
      rw [rew_selfs (by omega) (by omega) (by omega) hj hH hw]
      simp only [Option.bind_some, Bool.not_true, cond_false]
      rw [meth_same 200000 m (by omega) (by omega) (by omega) (by omega)]
      simp only [Option.bind_some, Bool.not_true, cond_false]
      cases far with
      | false => rfl
      | true =>
        have hwl : 0 < w.length := by rw [hw.1]; exact n0
        simp only [Bool.not_true, cond_false, idx_nat, List.getElem?_eq_getElem hwl, Option.bind_some]
        rw [show (((0 : Nat) : Int)).toNat = 0 from rfl, rew_far (by omega) n0 (by omega) (by omega) hw rfl rfl]
        rfl

end Go.Proofs.Ytgaldjnnfkdohaa
