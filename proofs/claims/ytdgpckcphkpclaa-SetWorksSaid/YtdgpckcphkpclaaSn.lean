/- Functions of the program, and their walks: what each reckons, and that its code reckons it. -/
import Derived.Test.YtdgpckcphkpclaaSaS
set_option linter.unusedVariables false
set_option linter.unusedSimpArgs false
set_option maxHeartbeats 0
set_option maxRecDepth 100000
namespace Go.Proofs.Ytdgpckcphkpclaa
open Go Go.Fw
noncomputable def bod10 : Code := Try.f10.body.getD .skip
theorem isf10 : IsFn Try.prog 10 Try.f10 bod10 := ⟨Try.func10, rfl, by decide⟩
noncomputable def bod9 : Code := Try.f9.body.getD .skip
theorem isf9 : IsFn Try.prog 9 Try.f9 bod9 := ⟨Try.func9, rfl, by decide⟩
-- 10 bonsai/set.New[int]
def set_New_int.l0 (fu : Nat) (p1 : (List Int)) : Nat → (List Int) → Int → Option (List Int)
  | 0, _, _ => none
  | k + 1, v125, v126 => bif decide (v126 < (p1.length : Int)) then ((idx p1 v126).bind fun x127 => (set_Set_int_Add.fn v125 x127).bind fun x132 => set_New_int.l0 fu p1 k x132.2 (w64 (v126 + 1))) else (some v125)
def set_New_int.fn (fu : Nat) (p1 : (List Int)) : Option (List Int) := (set_New_int.l0 fu p1 fu ([] : List Int) 0).bind fun s77 => some s77
theorem set_New_int_spec {K : KM} {fu : Nat} {p1 : (List Int)} {r : (List Int)} {a2 : Option Addr} {c3 : Nat} (hf : set_New_int.fn fu p1 = some r) (h4 : SlK 3 K a2 c3 p1) : Sp Try.prog 10 [(.slice a2 p1.length c3)] K [] (fun K' C v => ∃ (b139 : Nat), v = (.pointer (some ⟨b139, 0, none⟩)) ∧ SetO 62 K' b139 r C) := by
  unfold set_New_int.fn at hf
  refine spec_enter isf10 rfl ?_
  intro w L hS
  replace hS : Sat w K (flat [L]) := hS
  have hle := KM.le.refl K
  unfold bod10 Try.f10
  dsimp only [Option.getD_some, argSlots]
  refine s_seq (s_reg ?_)
  refine s_v rfl rfl rfl ?_
  refine s_nil (qn (s_seq (s_reg ?_)))
  refine s_mkm hS rfl rfl ?_
  intro r6 w hS
  refine s_v (v := (.agg #[(.map (some r6))])) rfl rfl rfl ?_
  refine s_bx hS rfl rfl rfl ?_
  intro b8 w hS
  replace hS : Sat w K (flat ([(b8, Cl [(.map (some r6))] 62)] :: _)) := hS
  have h10 : SetO 62 K b8 ([] : List Int) (flat [[(b8, Cl [(.map (some r6))] 62)], [(r6, .map #[] 0)]]) := ⟨List.nodup_nil, Nat.zero_le _, r6, rfl⟩
  replace hS := Sat.shut2 (hS.sel [0, 1, 2] rfl)
  generalize hCg_ : (flat [[(b8, Cl [(.map (some r6))] 62)], [(r6, .map #[] 0)]] : Chunks) = C11 at hS h10
  clear hCg_
  replace hS : Sat w _ (flat [_, _]) := hS
  refine s_v rfl rfl rfl ?_
  refine s_nil (qn ?_)
  obtain ⟨s77, hst78, hf⟩ := bs hf
  refine s_cut (fun τ w => ∃ (K73 : KM) (C75 : Chunks), τ = [(3, (.pointer (some ⟨b8, 0, none⟩)))] ∧ KM.le K K73 ∧ SetO 62 K73 b8 s77 C75 ∧ Sat w K73 (flat [C75, L])) (fun J hJ => ?_) ?_
  · replace hf := hst78
    refine s_seq (s_reg ?_)
    iterate 3 refine s_v rfl rfl rfl ?_
    refine s_nil (qn (s_block ?_))
    refine s_loopp (fun n τ w => ∃ (v125 : (List Int)) (v126 : Int) (K120 : KM) (C122 : Chunks), set_New_int.l0 fu p1 n v125 v126 = some s77 ∧ τ = [(3, (.pointer (some ⟨b8, 0, none⟩))), (9, (.slice a2 p1.length c3)), (10, (.int .i64 (p1.length : Int))), (11, (.int .i64 v126))] ∧ KM.le K K120 ∧ SetO 62 K120 b8 v125 C122 ∧ SlK 3 K120 a2 c3 p1 ∧ Sat w K120 (flat [C122, L])) _ ⟨([] : List Int), 0, K, C11, hf, rfl, hle, h10, h4, hS⟩ ⟨rfl, rfl, rfl, rfl, trivial⟩ ?_ ?_
    · rintro _ _ ⟨_, _, _, _, hf, _⟩
      exact absurd hf (by simp [set_New_int.l0])
    rintro n _ w Y hY ⟨v125, v126, K120, C122, hf, rfl, hle, h121, h124, hS⟩
    rw [set_New_int.l0] at hf
    refine s_seq (s_reg ?_)
    refine s_v rfl rfl rfl ?_
    refine s_nil (qn (s_seq ?_))
    refine s_if rfl (fun hc => ?_) (fun hc => ?_)
    · replace hf := bif_t hc hf
      refine s_skip (qn (s_seq (s_block (s_seq (s_reg ?_)))))
      obtain ⟨x127, hx128, hf⟩ := bs hf
      refine s_ixk h124 rfl hx128 rfl rfl rfl rfl rfl rfl rfl ?_
      rintro b129 o130 _ rfl h131
      refine s_ldk 0 hS h131 rfl rfl rfl rfl ?_
      refine s_v rfl rfl rfl ?_
      refine s_nil (qn (s_reg ?_))
      iterate 2 refine s_v rfl rfl rfl ?_
      obtain ⟨x132, hx133, hf⟩ := bs hf
      refine s_call isf13 (Sat.shut1 hS) (set_Set_int_Add_spec hx133 h121) rfl rfl rfl ?_
      rintro _ K134 C136 w hk135 ⟨rfl, h137⟩ hS
      refine s_nil (qbn (qn (s_reg ?_)))
      iterate 2 refine s_v rfl rfl rfl ?_
      refine s_nil (qn ?_)
      replace h124 := h124.mono hk135
      replace hle := hle.trans hk135
      refine s_join hY _ ⟨x132.2, w64 (v126 + 1), K134, C136, hf, rfl, hle, h137, h124, hS⟩ ⟨rfl, rfl, rfl, rfl, trivial⟩
    replace hf := bif_f hc hf
    refine s_exit (qxt (qxt (qxb (qn ?_))))
    have hq := Option.some.inj hf
    subst hq
    refine s_join hJ _ ⟨K120, C122, rfl, hle, h121, hS⟩ ⟨rfl, trivial⟩
  rintro _ w ⟨K73, C75, rfl, hle, h74, hS⟩
  refine s_seq (s_reg ?_)
  iterate 2 refine s_v rfl rfl rfl ?_
  refine s_nil (qn (s_rets ?_))
  have hq := Option.some.inj hf
  subst hq
  refine s_ret1 rfl (rv_t rfl) ?_
  exact ⟨K73, _, hle, ⟨b8, rfl, h74⟩, (hS.sel [0, 1] rfl)⟩
-- 9 bonsai/set.New[string]
def set_New_string.l0 (fu : Nat) (p1 : (List ByteArray)) : Nat → (List ByteArray) → Int → Option (List ByteArray)
  | 0, _, _ => none
  | k + 1, v125, v126 => bif decide (v126 < (p1.length : Int)) then ((idx p1 v126).bind fun x127 => (set_Set_string_Add.fn v125 x127).bind fun x132 => set_New_string.l0 fu p1 k x132.2 (w64 (v126 + 1))) else (some v125)
def set_New_string.fn (fu : Nat) (p1 : (List ByteArray)) : Option (List ByteArray) := (set_New_string.l0 fu p1 fu ([] : List ByteArray) 0).bind fun s77 => some s77
theorem set_New_string_spec {K : KM} {fu : Nat} {p1 : (List ByteArray)} {r : (List ByteArray)} {a2 : Option Addr} {c3 : Nat} (hf : set_New_string.fn fu p1 = some r) (h4 : SlK 9 K a2 c3 p1) : Sp Try.prog 9 [(.slice a2 p1.length c3)] K [] (fun K' C v => ∃ (b139 : Nat), v = (.pointer (some ⟨b139, 0, none⟩)) ∧ SetO 59 K' b139 r C) := by
  unfold set_New_string.fn at hf
  refine spec_enter isf9 rfl ?_
  intro w L hS
  replace hS : Sat w K (flat [L]) := hS
  have hle := KM.le.refl K
  unfold bod9 Try.f9
  dsimp only [Option.getD_some, argSlots]
  refine s_seq (s_reg ?_)
  refine s_v rfl rfl rfl ?_
  refine s_nil (qn (s_seq (s_reg ?_)))
  refine s_mkm hS rfl rfl ?_
  intro r6 w hS
  refine s_v (v := (.agg #[(.map (some r6))])) rfl rfl rfl ?_
  refine s_bx hS rfl rfl rfl ?_
  intro b8 w hS
  replace hS : Sat w K (flat ([(b8, Cl [(.map (some r6))] 59)] :: _)) := hS
  have h10 : SetO 59 K b8 ([] : List ByteArray) (flat [[(b8, Cl [(.map (some r6))] 59)], [(r6, .map #[] 0)]]) := ⟨List.nodup_nil, Nat.zero_le _, r6, rfl⟩
  replace hS := Sat.shut2 (hS.sel [0, 1, 2] rfl)
  generalize hCg_ : (flat [[(b8, Cl [(.map (some r6))] 59)], [(r6, .map #[] 0)]] : Chunks) = C11 at hS h10
  clear hCg_
  replace hS : Sat w _ (flat [_, _]) := hS
  refine s_v rfl rfl rfl ?_
  refine s_nil (qn ?_)
  obtain ⟨s77, hst78, hf⟩ := bs hf
  refine s_cut (fun τ w => ∃ (K73 : KM) (C75 : Chunks), τ = [(3, (.pointer (some ⟨b8, 0, none⟩)))] ∧ KM.le K K73 ∧ SetO 59 K73 b8 s77 C75 ∧ Sat w K73 (flat [C75, L])) (fun J hJ => ?_) ?_
  · replace hf := hst78
    refine s_seq (s_reg ?_)
    iterate 3 refine s_v rfl rfl rfl ?_
    refine s_nil (qn (s_block ?_))
    refine s_loopp (fun n τ w => ∃ (v125 : (List ByteArray)) (v126 : Int) (K120 : KM) (C122 : Chunks), set_New_string.l0 fu p1 n v125 v126 = some s77 ∧ τ = [(3, (.pointer (some ⟨b8, 0, none⟩))), (9, (.slice a2 p1.length c3)), (10, (.int .i64 (p1.length : Int))), (11, (.int .i64 v126))] ∧ KM.le K K120 ∧ SetO 59 K120 b8 v125 C122 ∧ SlK 9 K120 a2 c3 p1 ∧ Sat w K120 (flat [C122, L])) _ ⟨([] : List ByteArray), 0, K, C11, hf, rfl, hle, h10, h4, hS⟩ ⟨rfl, rfl, rfl, rfl, trivial⟩ ?_ ?_
    · rintro _ _ ⟨_, _, _, _, hf, _⟩
      exact absurd hf (by simp [set_New_string.l0])
    rintro n _ w Y hY ⟨v125, v126, K120, C122, hf, rfl, hle, h121, h124, hS⟩
    rw [set_New_string.l0] at hf
    refine s_seq (s_reg ?_)
    refine s_v rfl rfl rfl ?_
    refine s_nil (qn (s_seq ?_))
    refine s_if rfl (fun hc => ?_) (fun hc => ?_)
    · replace hf := bif_t hc hf
      refine s_skip (qn (s_seq (s_block (s_seq (s_reg ?_)))))
      obtain ⟨x127, hx128, hf⟩ := bs hf
      refine s_ixk h124 rfl hx128 rfl rfl rfl rfl rfl rfl rfl ?_
      rintro b129 o130 _ rfl h131
      refine s_ldk 0 hS h131 rfl rfl rfl rfl ?_
      refine s_v rfl rfl rfl ?_
      refine s_nil (qn (s_reg ?_))
      iterate 2 refine s_v rfl rfl rfl ?_
      obtain ⟨x132, hx133, hf⟩ := bs hf
      refine s_call isf29 (Sat.shut1 hS) (set_Set_string_Add_spec hx133 h121) rfl rfl rfl ?_
      rintro _ K134 C136 w hk135 ⟨rfl, h137⟩ hS
      refine s_nil (qbn (qn (s_reg ?_)))
      iterate 2 refine s_v rfl rfl rfl ?_
      refine s_nil (qn ?_)
      replace h124 := h124.mono hk135
      replace hle := hle.trans hk135
      refine s_join hY _ ⟨x132.2, w64 (v126 + 1), K134, C136, hf, rfl, hle, h137, h124, hS⟩ ⟨rfl, rfl, rfl, rfl, trivial⟩
    replace hf := bif_f hc hf
    refine s_exit (qxt (qxt (qxb (qn ?_))))
    have hq := Option.some.inj hf
    subst hq
    refine s_join hJ _ ⟨K120, C122, rfl, hle, h121, hS⟩ ⟨rfl, trivial⟩
  rintro _ w ⟨K73, C75, rfl, hle, h74, hS⟩
  refine s_seq (s_reg ?_)
  iterate 2 refine s_v rfl rfl rfl ?_
  refine s_nil (qn (s_rets ?_))
  have hq := Option.some.inj hf
  subst hq
  refine s_ret1 rfl (rv_t rfl) ?_
  exact ⟨K73, _, hle, ⟨b8, rfl, h74⟩, (hS.sel [0, 1] rfl)⟩
end Go.Proofs.Ytdgpckcphkpclaa
