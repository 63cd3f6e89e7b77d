/- Functions of the program, and their walks: what each reckons, and that its code reckons it. -/
import Derived.Test.YtdgpckcphkpclaaScS
set_option linter.unusedVariables false
set_option linter.unusedSimpArgs false
set_option maxHeartbeats 0
set_option maxRecDepth 100000
namespace Go.Proofs.Ytdgpckcphkpclaa
open Go Go.Fw
noncomputable def bod23 : Code := Try.f23.body.getD .skip
theorem isf23 : IsFn Try.prog 23 Try.f23 bod23 := ⟨Try.func23, rfl, by decide⟩
noncomputable def bod27 : Code := Try.f27.body.getD .skip
theorem isf27 : IsFn Try.prog 27 Try.f27 bod27 := ⟨Try.func27, rfl, by decide⟩
-- 23 bonsai/set.NewWork[int]
def set_NewWork_int.l0 (fu : Nat) (p1 : (List Int)) : Nat → (WorkV Int) → Int → Option (WorkV Int)
  | 0, _, _ => none
  | k + 1, v131, v132 => bif decide (v132 < (p1.length : Int)) then ((idx p1 v132).bind fun x133 => (set_Work_int_Put.fn v131 x133).bind fun x138 => set_NewWork_int.l0 fu p1 k x138.2 (w64 (v132 + 1))) else (some v131)
def set_NewWork_int.fn (fu : Nat) (p1 : (List Int)) : Option (WorkV Int) := (set_New_int.fn fu []).bind fun x6 => (set_NewWork_int.l0 fu p1 fu (WorkV.mk [] x6) 0).bind fun s83 => some s83
theorem set_NewWork_int_spec {K : KM} {fu : Nat} {p1 : (List Int)} {r : (WorkV Int)} {a2 : Option Addr} {c3 : Nat} (hf : set_NewWork_int.fn fu p1 = some r) (h4 : SlK 3 K a2 c3 p1) : Sp Try.prog 23 [(.slice a2 p1.length c3)] K [] (fun K' C v => ∃ (b145 : Nat), v = (.pointer (some ⟨b145, 0, none⟩)) ∧ WorkO 68 62 3 K' b145 r C) := by
  unfold set_NewWork_int.fn at hf
  refine spec_enter isf23 rfl ?_
  intro w L hS
  replace hS : Sat w K (flat [L]) := hS
  have hle := KM.le.refl K
  unfold bod23 Try.f23
  dsimp only [Option.getD_some, argSlots]
  refine s_seq (s_reg ?_)
  refine s_v rfl rfl rfl ?_
  refine s_nil (qn (s_seq (s_reg ?_)))
  obtain ⟨x6, hx7, hf⟩ := bs hf
  refine s_call isf10 hS.nilG (set_New_int_spec hx7 SlK.nil) rfl rfl rfl ?_
  rintro _ K8 C10 w hk9 ⟨b11, rfl, h12⟩ hS
  refine s_v (v := (.agg #[(.slice none 0 0), (.pointer (some ⟨b11, 0, none⟩))])) rfl rfl rfl ?_
  refine s_bx hS rfl rfl rfl ?_
  intro b14 w hS
  replace hS : Sat w K8 (flat ([(b14, Cl [(.slice none 0 0), (.pointer (some ⟨b11, 0, none⟩))] 68)] :: _)) := hS
  have h16 : WorkO 68 62 3 K8 b14 (WorkV.mk [] x6) (flat [[(b14, Cl [(.slice none 0 0), (.pointer (some ⟨b11, 0, none⟩))] 68)], [], C10]) := ⟨List.Pairwise.nil, none, 0, b11, [], _, TodoR.nil, h12, rfl⟩
  replace hS := Sat.shut3 (C1 := []) (hS.sel [0, 1, 2] rfl)
  generalize hCg_ : (flat [[(b14, Cl [(.slice none 0 0), (.pointer (some ⟨b11, 0, none⟩))] 68)], [], C10] : Chunks) = C17 at hS h16
  clear hCg_
  replace hS : Sat w _ (flat [_, _]) := hS
  refine s_v rfl rfl rfl ?_
  refine s_nil (qn ?_)
  obtain ⟨s83, hst84, hf⟩ := bs hf
  refine s_cut (fun τ w => ∃ (K79 : KM) (C81 : Chunks), τ = [(3, (.pointer (some ⟨b14, 0, none⟩)))] ∧ KM.le K K79 ∧ WorkO 68 62 3 K79 b14 s83 C81 ∧ Sat w K79 (flat [C81, L])) (fun J hJ => ?_) ?_
  · replace hf := hst84
    refine s_seq (s_reg ?_)
    iterate 3 refine s_v rfl rfl rfl ?_
    refine s_nil (qn (s_block ?_))
    replace h4 := h4.mono hk9
    replace hle := hle.trans hk9
    refine s_loopp (fun n τ w => ∃ (v131 : (WorkV Int)) (v132 : Int) (K126 : KM) (C128 : Chunks), set_NewWork_int.l0 fu p1 n v131 v132 = some s83 ∧ τ = [(3, (.pointer (some ⟨b14, 0, none⟩))), (9, (.slice a2 p1.length c3)), (10, (.int .i64 (p1.length : Int))), (11, (.int .i64 v132))] ∧ KM.le K K126 ∧ WorkO 68 62 3 K126 b14 v131 C128 ∧ SlK 3 K126 a2 c3 p1 ∧ Sat w K126 (flat [C128, L])) _ ⟨(WorkV.mk [] x6), 0, K8, C17, hf, rfl, hle, h16, h4, hS⟩ ⟨rfl, rfl, rfl, rfl, trivial⟩ ?_ ?_
    · rintro _ _ ⟨_, _, _, _, hf, _⟩
      exact absurd hf (by simp [set_NewWork_int.l0])
    rintro n _ w Y hY ⟨v131, v132, K126, C128, hf, rfl, hle, h127, h130, hS⟩
    rw [set_NewWork_int.l0] at hf
    refine s_seq (s_reg ?_)
    refine s_v rfl rfl rfl ?_
    refine s_nil (qn (s_seq ?_))
    refine s_if rfl (fun hc => ?_) (fun hc => ?_)
    · replace hf := bif_t hc hf
      refine s_skip (qn (s_seq (s_block (s_seq (s_reg ?_)))))
      obtain ⟨x133, hx134, hf⟩ := bs hf
      refine s_ixk h130 rfl hx134 rfl rfl rfl rfl rfl rfl rfl ?_
      rintro b135 o136 _ rfl h137
      refine s_ldk 0 hS h137 rfl rfl rfl rfl ?_
      refine s_v rfl rfl rfl ?_
      refine s_nil (qn (s_reg ?_))
      iterate 2 refine s_v rfl rfl rfl ?_
      obtain ⟨x138, hx139, hf⟩ := bs hf
      refine s_call isf24 (Sat.shut1 hS) (set_Work_int_Put_spec hx139 h127) rfl rfl rfl ?_
      rintro _ K140 C142 w hk141 ⟨rfl, h143⟩ hS
      refine s_nil (qbn (qn (s_reg ?_)))
      iterate 2 refine s_v rfl rfl rfl ?_
      refine s_nil (qn ?_)
      replace h130 := h130.mono hk141
      replace hle := hle.trans hk141
      refine s_join hY _ ⟨x138.2, w64 (v132 + 1), K140, C142, hf, rfl, hle, h143, h130, hS⟩ ⟨rfl, rfl, rfl, rfl, trivial⟩
    replace hf := bif_f hc hf
    refine s_exit (qxt (qxt (qxb (qn ?_))))
    have hq := Option.some.inj hf
    subst hq
    refine s_join hJ _ ⟨K126, C128, rfl, hle, h127, hS⟩ ⟨rfl, trivial⟩
  rintro _ w ⟨K79, C81, rfl, hle, h80, hS⟩
  refine s_seq (s_reg ?_)
  iterate 2 refine s_v rfl rfl rfl ?_
  refine s_nil (qn (s_rets ?_))
  have hq := Option.some.inj hf
  subst hq
  refine s_ret1 rfl (rv_t rfl) ?_
  exact ⟨K79, _, hle, ⟨b14, rfl, h80⟩, (hS.sel [0, 1] rfl)⟩
-- 27 bonsai/set.NewWork[string]
def set_NewWork_string.l0 (fu : Nat) (p1 : (List ByteArray)) : Nat → (WorkV ByteArray) → Int → Option (WorkV ByteArray)
  | 0, _, _ => none
  | k + 1, v131, v132 => bif decide (v132 < (p1.length : Int)) then ((idx p1 v132).bind fun x133 => (set_Work_string_Put.fn v131 x133).bind fun x138 => set_NewWork_string.l0 fu p1 k x138.2 (w64 (v132 + 1))) else (some v131)
def set_NewWork_string.fn (fu : Nat) (p1 : (List ByteArray)) : Option (WorkV ByteArray) := (set_New_string.fn fu []).bind fun x6 => (set_NewWork_string.l0 fu p1 fu (WorkV.mk [] x6) 0).bind fun s83 => some s83
theorem set_NewWork_string_spec {K : KM} {fu : Nat} {p1 : (List ByteArray)} {r : (WorkV ByteArray)} {a2 : Option Addr} {c3 : Nat} (hf : set_NewWork_string.fn fu p1 = some r) (h4 : SlK 9 K a2 c3 p1) : Sp Try.prog 27 [(.slice a2 p1.length c3)] K [] (fun K' C v => ∃ (b145 : Nat), v = (.pointer (some ⟨b145, 0, none⟩)) ∧ WorkO 72 59 9 K' b145 r C) := by
  unfold set_NewWork_string.fn at hf
  refine spec_enter isf27 rfl ?_
  intro w L hS
  replace hS : Sat w K (flat [L]) := hS
  have hle := KM.le.refl K
  unfold bod27 Try.f27
  dsimp only [Option.getD_some, argSlots]
  refine s_seq (s_reg ?_)
  refine s_v rfl rfl rfl ?_
  refine s_nil (qn (s_seq (s_reg ?_)))
  obtain ⟨x6, hx7, hf⟩ := bs hf
  refine s_call isf9 hS.nilG (set_New_string_spec hx7 SlK.nil) rfl rfl rfl ?_
  rintro _ K8 C10 w hk9 ⟨b11, rfl, h12⟩ hS
  refine s_v (v := (.agg #[(.slice none 0 0), (.pointer (some ⟨b11, 0, none⟩))])) rfl rfl rfl ?_
  refine s_bx hS rfl rfl rfl ?_
  intro b14 w hS
  replace hS : Sat w K8 (flat ([(b14, Cl [(.slice none 0 0), (.pointer (some ⟨b11, 0, none⟩))] 72)] :: _)) := hS
  have h16 : WorkO 72 59 9 K8 b14 (WorkV.mk [] x6) (flat [[(b14, Cl [(.slice none 0 0), (.pointer (some ⟨b11, 0, none⟩))] 72)], [], C10]) := ⟨List.Pairwise.nil, none, 0, b11, [], _, TodoR.nil, h12, rfl⟩
  replace hS := Sat.shut3 (C1 := []) (hS.sel [0, 1, 2] rfl)
  generalize hCg_ : (flat [[(b14, Cl [(.slice none 0 0), (.pointer (some ⟨b11, 0, none⟩))] 72)], [], C10] : Chunks) = C17 at hS h16
  clear hCg_
  replace hS : Sat w _ (flat [_, _]) := hS
  refine s_v rfl rfl rfl ?_
  refine s_nil (qn ?_)
  obtain ⟨s83, hst84, hf⟩ := bs hf
  refine s_cut (fun τ w => ∃ (K79 : KM) (C81 : Chunks), τ = [(3, (.pointer (some ⟨b14, 0, none⟩)))] ∧ KM.le K K79 ∧ WorkO 72 59 9 K79 b14 s83 C81 ∧ Sat w K79 (flat [C81, L])) (fun J hJ => ?_) ?_
  · replace hf := hst84
    refine s_seq (s_reg ?_)
    iterate 3 refine s_v rfl rfl rfl ?_
    refine s_nil (qn (s_block ?_))
    replace h4 := h4.mono hk9
    replace hle := hle.trans hk9
    refine s_loopp (fun n τ w => ∃ (v131 : (WorkV ByteArray)) (v132 : Int) (K126 : KM) (C128 : Chunks), set_NewWork_string.l0 fu p1 n v131 v132 = some s83 ∧ τ = [(3, (.pointer (some ⟨b14, 0, none⟩))), (9, (.slice a2 p1.length c3)), (10, (.int .i64 (p1.length : Int))), (11, (.int .i64 v132))] ∧ KM.le K K126 ∧ WorkO 72 59 9 K126 b14 v131 C128 ∧ SlK 9 K126 a2 c3 p1 ∧ Sat w K126 (flat [C128, L])) _ ⟨(WorkV.mk [] x6), 0, K8, C17, hf, rfl, hle, h16, h4, hS⟩ ⟨rfl, rfl, rfl, rfl, trivial⟩ ?_ ?_
    · rintro _ _ ⟨_, _, _, _, hf, _⟩
      exact absurd hf (by simp [set_NewWork_string.l0])
    rintro n _ w Y hY ⟨v131, v132, K126, C128, hf, rfl, hle, h127, h130, hS⟩
    rw [set_NewWork_string.l0] at hf
    refine s_seq (s_reg ?_)
    refine s_v rfl rfl rfl ?_
    refine s_nil (qn (s_seq ?_))
    refine s_if rfl (fun hc => ?_) (fun hc => ?_)
    · replace hf := bif_t hc hf
      refine s_skip (qn (s_seq (s_block (s_seq (s_reg ?_)))))
      obtain ⟨x133, hx134, hf⟩ := bs hf
      refine s_ixk h130 rfl hx134 rfl rfl rfl rfl rfl rfl rfl ?_
      rintro b135 o136 _ rfl h137
      refine s_ldk 0 hS h137 rfl rfl rfl rfl ?_
      refine s_v rfl rfl rfl ?_
      refine s_nil (qn (s_reg ?_))
      iterate 2 refine s_v rfl rfl rfl ?_
      obtain ⟨x138, hx139, hf⟩ := bs hf
      refine s_call isf39 (Sat.shut1 hS) (set_Work_string_Put_spec hx139 h127) rfl rfl rfl ?_
      rintro _ K140 C142 w hk141 ⟨rfl, h143⟩ hS
      refine s_nil (qbn (qn (s_reg ?_)))
      iterate 2 refine s_v rfl rfl rfl ?_
      refine s_nil (qn ?_)
      replace h130 := h130.mono hk141
      replace hle := hle.trans hk141
      refine s_join hY _ ⟨x138.2, w64 (v132 + 1), K140, C142, hf, rfl, hle, h143, h130, hS⟩ ⟨rfl, rfl, rfl, rfl, trivial⟩
    replace hf := bif_f hc hf
    refine s_exit (qxt (qxt (qxb (qn ?_))))
    have hq := Option.some.inj hf
    subst hq
    refine s_join hJ _ ⟨K126, C128, rfl, hle, h127, hS⟩ ⟨rfl, trivial⟩
  rintro _ w ⟨K79, C81, rfl, hle, h80, hS⟩
  refine s_seq (s_reg ?_)
  iterate 2 refine s_v rfl rfl rfl ?_
  refine s_nil (qn (s_rets ?_))
  have hq := Option.some.inj hf
  subst hq
  refine s_ret1 rfl (rv_t rfl) ?_
  exact ⟨K79, _, hle, ⟨b14, rfl, h80⟩, (hS.sel [0, 1] rfl)⟩
end Go.Proofs.Ytdgpckcphkpclaa
