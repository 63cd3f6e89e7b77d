/- What RewriteTwice reckons is true, whatever it is told: the law. -/
import Derived.Test.YtgaldjnnfkdohaaPureTwice
set_option linter.unusedVariables false
set_option linter.unusedSimpArgs false
namespace Go.Proofs.Ytgaldjnnfkdohaa
open Go Go.Fw

theorem known19 : bonsailaw19_known.fn 200000 = some true := by kernel_rfl

theorem idx0_of {α : Type} {l : List α} {x : α} (h : l[0]? = some x) : idx l 0 = some x := by
  rw [show (0 : Int) = ((0 : Nat) : Int) from rfl, idx_nat]; exact h

theorem lens_of {m : api_Method} (h : MOk m) : 0 < m.Code.length ∧ m.Code.length ≤ 1000 ∧ m.Handlers.length ≤ 1000 ∧ m.Params.length ≤ 20 ∧ jumpsIn m.Code.length m.Code ∧ handsIn m.Code.length m.Handlers := by
  obtain ⟨⟨h1, h2, h3, h4, h5⟩, h6⟩ := h
  refine ⟨h1, h2, h3, Nat.le_of_ble_eq_true h6, fun i hi hb => h4 i hi ?_, h5⟩
  unfold jumpB at hb
  simp only [Bool.or_eq_true, beq_iff_eq] at hb
  exact hb

theorem rep_get {n : Nat} {q : Nat} (h : q < n) : (List.replicate n ([] : List api_Instr))[q]? = some [] := by simp [h]

theorem bonsailaw19_RewriteTwice_true (k : Arr4_uint8) (hk : GoOpen.wf Try.prog 68 k) (l : List Int) (hl : l.length ≤ maxLen) (hw : ∀ y ∈ l, GoOpen.wf Try.prog 5 y) (a : Int) (wa : (Lit.int .u8 a).wf = true) (b : Int) (wb : (Lit.int .u8 b).wf = true) :
    ∃ fu, bonsailaw19_RewriteTwice.fn fu k l a b = some true := by
  refine ⟨200000, ?_⟩
  unfold bonsailaw19_RewriteTwice.fn
  rw [known19]
  simp only [Option.bind_some, Bool.not_true, cond_false]
  by_cases h40 : (l.length : Int) > 40
  · rw [show decide ((l.length : Int) > 40) = true by simpa using h40]; rfl
  rw [show decide ((l.length : Int) > 40) = false by simpa using h40]
  simp only [cond_false]
  obtain ⟨wk0, wk1, wk2, wk3⟩ := hk
  have ba := u8_bounds wa; have bb := u8_bounds wb
  obtain ⟨z, hz, oz⟩ := archive_ok 200000 (by omega) k (u8_bounds wk0).1 (u8_bounds wk3).1 l [] (by omega) (fun y hy => (u8_bounds (hw y hy)).1) (by simp) (fun y hy => by cases hy)
  rw [hz]
  simp only [Option.bind_some]
  obtain ⟨c0, hc0, m0, r0, hm0, ok0⟩ := oz.first
  rw [idx0_of hc0]
  simp only [Option.bind_some]
  rw [idx0_of (show c0.Methods[0]? = some m0 by rw [hm0]; rfl)]
  simp only [Option.bind_some]
  have hm : ∃ m, MOk m ∧ (bif (iand .u8 k.e2 4) == 4 then ((idx z.Classes (w64 ((z.Classes.length : Int) - 1))).bind fun x96 => (idx x96.Methods 0).bind fun x110 => some (x110.Name, x110.Params, x110.Ret.Kind, x110.Ret.Class, x110.Static, x110.Abstract, x110.Locals, x110.Code, x110.Handlers))
      else (some (m0.Name, m0.Params, m0.Ret.Kind, m0.Ret.Class, m0.Static, m0.Abstract, m0.Locals, m0.Code, m0.Handlers))) = some (m.Name, m.Params, m.Ret.Kind, m.Ret.Class, m.Static, m.Abstract, m.Locals, m.Code, m.Handlers) := by
    cases hr : ((iand .u8 k.e2 4) == 4) with
    | false => exact ⟨m0, ok0, rfl⟩
    | true =>
      obtain ⟨c, hc, m, r, hm, ok⟩ := oz.last hr
      refine ⟨m, ok, ?_⟩
      simp only [cond_true]
      rw [oz.len, w64_eq (by omega) (by omega), show ((13 : Nat) : Int) - 1 = ((12 : Nat) : Int) from rfl, idx_nat, hc]
      simp only [Option.bind_some]
      rw [idx0_of (show c.Methods[0]? = some m by rw [hm]; rfl)]
      rfl
  obtain ⟨m, ok, hs⟩ := hm
  rw [hs]
  simp only [Option.bind_some]
  obtain ⟨n0, n1, n2, n3, hj, hH⟩ := lens_of ok
  rw [w64_eq (x := a) (by omega) (by omega), w64_eq (x := b) (by omega) (by omega), w64_eq (x := (m.Code.length : Int) + 2) (by omega) (by omega)]
  rw [show ((m.Code.length : Int) != 0) = true by rw [bne_iff_ne]; omega]
  simp only [guardB, cond_true]
  obtain ⟨i, hi⟩ : ∃ i : Nat, Int.tmod a (m.Code.length : Int) = i := ⟨(Int.tmod a (m.Code.length : Int)).toNat, by have := tmod_nn ba.1 (show (0 : Int) < m.Code.length by omega); omega⟩
  obtain ⟨j, hj'⟩ : ∃ i : Nat, Int.tmod b (m.Code.length : Int) = i := ⟨(Int.tmod b (m.Code.length : Int)).toNat, by have := tmod_nn bb.1 (show (0 : Int) < m.Code.length by omega); omega⟩
  have hin : i < m.Code.length := by have := tmod_nn ba.1 (show (0 : Int) < m.Code.length by omega); omega
  have hjn : j < m.Code.length := by have := tmod_nn bb.1 (show (0 : Int) < m.Code.length by omega); omega
  rw [hi, hj']
  by_cases hij : (i : Int) ≥ j
  · rw [show decide ((i : Int) ≥ (j : Int)) = true by simpa using hij]; rfl
  rw [show decide ((i : Int) ≥ (j : Int)) = false by simpa using hij]
  have hij' : i < j := by omega
  rw [mayMake_of (n := (m.Code.length : Int)) (by omega) (by omega), mayMake_of (n := (m.Code.length : Int) + 2) (by omega) (by omega)]
  simp only [cond_true, cond_false, Int.toNat_natCast]
  rw [show ((m.Code.length : Int) + 2).toNat = m.Code.length + 2 by omega, show (GoZero.zero 64 (α := List api_Instr)) = [] from rfl]
  simp only [idx_nat, List.getElem?_eq_getElem hin, List.getElem?_eq_getElem hjn, Option.bind_some, rep_get hin, rep_get hjn]
  rw [show ((List.replicate m.Code.length ([] : List api_Instr)).set i [iNo, iPop, m.Code[i]])[i]? = some [iNo, iPop, m.Code[i]] by simp [hin]]
  simp only [Option.bind_some]
  rw [show ((List.replicate m.Code.length ([] : List api_Instr)).set i [iNo, iPop, m.Code[i]])[j]? = some [] by rw [List.getElem?_set_ne (by omega)]; exact rep_get hjn]
  simp only [Option.bind_some]
  have e1 := rew_ins (fu := 200000) (m := m) (w := (List.replicate m.Code.length ([] : List api_Instr)).set i [iNo, iPop, m.Code[i]]) (p := i) (by omega) (by omega) (by omega) hj hH hin (by simp [hin]) (fun q hq hne => by rw [List.getElem?_set_ne (by omega)]; exact rep_get hq)
  rw [show (⟨m.Name, m.Params, ⟨m.Ret.Kind, m.Ret.Class⟩, m.Static, m.Abstract, m.Locals, m.Code, m.Handlers⟩ : api_Method) = m from rfl, e1]
  simp only [Option.bind_some, Bool.not_true, cond_false]
  rw [show (((insM i m).Code.length : Int) != ((m.Code.length : Int) + 2)) = false by rw [insM_len]; simp]
  simp only [cond_false]
  rw [w64_eq (x := (j : Int) + 2) (by omega) (by omega), show (j : Int) + 2 = ((j + 2 : Nat) : Int) by omega]
  have hj2 : j + 2 < (insM i m).Code.length := by rw [insM_len]; omega
  simp only [idx_nat, List.getElem?_eq_getElem hj2, Option.bind_some, rep_get (show j + 2 < m.Code.length + 2 by omega), Int.toNat_natCast]
  have hx := insM_jumps hin hj; have hxh := insM_hands hin hH
  have e2 := rew_ins (fu := 200000) (m := insM i m) (w := (List.replicate (m.Code.length + 2) ([] : List api_Instr)).set (j + 2) [iNo, iPop, (insM i m).Code[j + 2]]) (p := j + 2) (by omega) (by rw [insM_len]; omega) (by simp [insM]; omega) hx hxh hj2 (by rw [List.getElem?_set_self (by rw [List.length_replicate, ← insM_len (p := i) (m := m)]; exact hj2)])
    (fun q hq hne => by rw [insM_len] at hq; rw [List.getElem?_set_ne (by omega)]; exact rep_get hq)
  rw [e2]
  simp only [Option.bind_some]
  have e3 := rew_both (fu := 200000) (m := m) (w := ((List.replicate m.Code.length ([] : List api_Instr)).set i [iNo, iPop, m.Code[i]]).set j [iNo, iPop, m.Code[j]]) (i := i) (j := j) (by omega) (by omega) (by omega) hj hH hij' hjn hin
    (by rw [List.getElem?_set_ne (by omega)]; simp [hin]) (by simp [hjn]) (fun q hq h1 h2 => by rw [List.getElem?_set_ne (by omega), List.getElem?_set_ne (by omega)]; exact rep_get hq)
  rw [e3]
  simp only [Option.bind_some, cond_true]
  rw [meth_same 200000 _ (by simp [insM]; omega) (by rw [insM_len, insM_len]; omega) (by simp [insM]; omega) (by omega)]
  rfl

end Go.Proofs.Ytgaldjnnfkdohaa
