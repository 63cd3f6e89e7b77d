/- Functions of the program, and their walks: what each reckons, and that its code reckons it. -/
import Derived.Test.YtdgpckcphkpclaaSf
set_option linter.unusedVariables false
set_option linter.unusedSimpArgs false
set_option maxHeartbeats 0
set_option maxRecDepth 100000
namespace Go.Proofs.Ytdgpckcphkpclaa
open Go Go.Fw
noncomputable def bod8 : Code := Try.f8.body.getD .skip
theorem isf8 : IsFn Try.prog 8 Try.f8 bod8 := ⟨Try.func8, rfl, by decide⟩
-- 8 bonsai/bonsailaw7.known
def bonsailaw7_known.fn (fu : Nat) : Option Bool := (set_New_string.fn fu ([(⟨#[98]⟩ : ByteArray), (⟨#[97]⟩ : ByteArray), (⟨#[98]⟩ : ByteArray)] : List ByteArray)).bind fun x8 => (set_NewWork_int.fn fu ([2, 1] : List Int)).bind fun x22 => (set_Work_int_Take.fn x22).bind fun x30 => (set_Work_int_Put.fn x30.2.2 1).bind fun x37 => (set_Work_int_Again.fn x37.2 1).bind fun x44 => (set_Work_int_Take.fn x44).bind fun x51 => (set_Set_string_List.fn x8).bind fun x58 => (set_Set_string_Len.fn x58.2).bind fun x71 => (bif x71.1 == 2 then (some ((x58.1.length : Int) == 2)) else (some false)).bind fun s87 => (bif s87 then ((idx x58.1 0).bind fun x104 => some (x104.toList == (⟨#[97]⟩ : ByteArray).toList)) else (some false)).bind fun s102 => (bif s102 then ((set_Set_string_Has.fn x71.2 (⟨#[98]⟩ : ByteArray)).bind fun x126 => some (x126.2, x126.1)) else (some (x71.2, false))).bind fun s124 => (bif s124.2 then ((set_Set_string_Add.fn s124.1 (⟨#[97]⟩ : ByteArray)).bind fun x143 => some (!x143.1)) else (some false)).bind fun s141 => (bif s141 then (some x30.2.1) else (some false)).bind fun s151 => (bif s151 then (some (x30.1 == 1)) else (some false)).bind fun s154 => (bif s154 then (some (!x37.1)) else (some false)).bind fun s157 => (bif s157 then (some (x51.1 == 1)) else (some false)).bind fun s160 => some s160
theorem bonsailaw7_known_spec {K : KM} {fu : Nat} {r : Bool} (hf : bonsailaw7_known.fn fu = some r) : Sp Try.prog 8 [] K [] (fun K' C v => v = (.bool r)) := by
  unfold bonsailaw7_known.fn at hf
  refine spec_enter isf8 rfl ?_
  intro w L hS
  replace hS : Sat w K (flat [L]) := hS
  have hle := KM.le.refl K
  unfold bod8 Try.f8
  dsimp only [Option.getD_some, argSlots]
  refine s_seq (s_reg ?_)
  refine s_v rfl rfl rfl ?_
  refine s_nil (qn (s_seq (s_reg ?_)))
  refine s_bwc (cs := [(.string (⟨#[98]⟩ : ByteArray)), (.string (⟨#[97]⟩ : ByteArray)), (.string (⟨#[98]⟩ : ByteArray))]) hS rfl rfl rfl rfl rfl rfl rfl rfl rfl rfl ?_
  intro b2 w hS
  have h4 : OwnS 9 K (.slice (some ⟨b2, 0, none⟩) 3 3) ([(⟨#[98]⟩ : ByteArray), (⟨#[97]⟩ : ByteArray), (⟨#[98]⟩ : ByteArray)] : List ByteArray) [(b2, Cl [(.string (⟨#[98]⟩ : ByteArray)), (.string (⟨#[97]⟩ : ByteArray)), (.string (⟨#[98]⟩ : ByteArray))] 9)] := OwnS.lit ⟨[(.string (⟨#[98]⟩ : ByteArray))], _, rfl, rfl, ⟨[(.string (⟨#[97]⟩ : ByteArray))], _, rfl, rfl, ⟨[(.string (⟨#[98]⟩ : ByteArray))], _, rfl, rfl, rfl⟩⟩⟩ rfl rfl
  obtain ⟨K5, hk6, h7, hS⟩ := h4.freeze (hS.sel [0, 1] rfl)
  replace hS : Sat w _ (flat [_]) := hS
  obtain ⟨x8, hx9, hf⟩ := bs hf
  refine s_call isf9 hS.nilG (set_New_string_spec hx9 h7) rfl rfl rfl ?_
  rintro _ K10 C12 w hk11 ⟨b13, rfl, h14⟩ hS
  refine s_v rfl rfl rfl ?_
  refine s_nil (qn (s_seq (s_reg ?_)))
  refine s_bwc (cs := [(.int .i64 2), (.int .i64 1)]) hS rfl rfl rfl rfl rfl rfl rfl rfl rfl rfl ?_
  intro b16 w hS
  have h18 : OwnS 3 K10 (.slice (some ⟨b16, 0, none⟩) 2 2) ([2, 1] : List Int) [(b16, Cl [(.int .i64 2), (.int .i64 1)] 3)] := OwnS.lit ⟨[(.int .i64 2)], _, rfl, rfl, ⟨[(.int .i64 1)], _, rfl, rfl, rfl⟩⟩ rfl rfl
  obtain ⟨K19, hk20, h21, hS⟩ := h18.freeze (hS.sel [0, 1, 2] rfl)
  replace hS : Sat w _ (flat [_, _]) := hS
  obtain ⟨x22, hx23, hf⟩ := bs hf
  refine s_call isf23 hS.nilG (set_NewWork_int_spec hx23 h21) rfl rfl rfl ?_
  rintro _ K24 C26 w hk25 ⟨b27, rfl, h28⟩ hS
  refine s_v rfl rfl rfl ?_
  refine s_nil (qn (s_seq (s_seq (s_reg ?_))))
  iterate 6 refine s_v rfl rfl rfl ?_
  refine s_nil (qn ?_)
  refine s_if (b := false) rfl (fun h => nomatch h) (fun _ => ?_)
  refine s_skip (qn (s_seq (s_reg ?_)))
  refine s_v rfl rfl rfl ?_
  obtain ⟨x30, hx31, hf⟩ := bs hf
  refine s_call isf26 (Sat.shut1 hS) (set_Work_int_Take_spec hx31 h28) rfl rfl rfl ?_
  rintro _ K32 C34 w hk33 ⟨rfl, h35⟩ hS
  iterate 5 refine s_v rfl rfl rfl ?_
  refine s_nil (qn (s_seq (s_reg ?_)))
  refine s_v rfl rfl rfl ?_
  obtain ⟨x37, hx38, hf⟩ := bs hf
  refine s_call isf24 (Sat.shut1 hS) (set_Work_int_Put_spec hx38 h35) rfl rfl rfl ?_
  rintro _ K39 C41 w hk40 ⟨rfl, h42⟩ hS
  refine s_v rfl rfl rfl ?_
  refine s_nil (qn (s_seq (s_reg ?_)))
  refine s_v rfl rfl rfl ?_
  obtain ⟨x44, hx45, hf⟩ := bs hf
  refine s_call isf25 (Sat.shut1 hS) (set_Work_int_Again_spec hx45 h42) rfl rfl rfl ?_
  rintro _ K46 C48 w hk47 ⟨rfl, h49⟩ hS
  refine s_nil (qn (s_seq (s_reg ?_)))
  refine s_v rfl rfl rfl ?_
  obtain ⟨x51, hx52, hf⟩ := bs hf
  refine s_call isf26 (Sat.shut1 hS) (set_Work_int_Take_spec hx52 h49) rfl rfl rfl ?_
  rintro _ K53 C55 w hk54 ⟨rfl, h56⟩ hS
  iterate 5 refine s_v rfl rfl rfl ?_
  refine s_nil (qn ?_)
  replace hS : Sat w K53 (flat [_, _]) := (hS.sel [1, 2] rfl)
  refine s_seq (s_reg ?_)
  refine s_v rfl rfl rfl ?_
  obtain ⟨x58, hx59, hf⟩ := bs hf
  have hkk0 := ((((hk20.trans hk25).trans hk33).trans hk40).trans hk47).trans hk54
  replace h14 := h14.mono hkk0
  refine s_call isf18 (Sat.shut1 hS) (set_Set_string_List_spec hx59 h14) rfl rfl rfl ?_
  rintro _ K60 _ w hk61 ⟨a63, c64, C67, C68, rfl, h65, h66, rfl⟩ hS
  replace hS := hS.open2
  refine s_v rfl rfl rfl ?_
  refine s_nil (qn (s_seq (s_reg ?_)))
  refine s_v rfl rfl rfl ?_
  obtain ⟨x71, hx72, hf⟩ := bs hf
  refine s_call isf22 (Sat.shut1 (hS.sel [1, 0, 2] rfl)) (set_Set_string_Len_spec hx72 h66) rfl rfl rfl ?_
  rintro _ K73 C75 w hk74 ⟨rfl, h76⟩ hS
  iterate 2 refine s_v rfl rfl rfl ?_
  obtain ⟨s87, hst88, hf⟩ := bs hf
  have hkk1 := ((((((((hk6.trans hk11).trans hk20).trans hk25).trans hk33).trans hk40).trans hk47).trans hk54).trans hk61).trans hk74
  refine r_cut [_, _, _, _] (fun τ w => ∃ (K78 : KM) (C80 : Chunks) (C85 : Chunks), τ = [(1, (.pointer (some ⟨b13, 0, none⟩))), (3, (.int .i64 x30.1)), (4, (.bool x30.2.1)), (5, (.bool x37.1)), (6, (.int .i64 x51.1)), (8, (.slice a63 x58.1.length c64)), (42, (.bool s87))] ∧ KM.le K K78 ∧ SetO 59 K78 b13 x71.2 C80 ∧ OwnS 9 K78 (.slice a63 x58.1.length c64) x58.1 C85 ∧ Sat w K78 (flat [C80, C85, L])) rfl (fun J hJ => ?_) ?_
  · replace hf := hst88
    cases hc : (x71.1 == 2)
    · replace hf := bif_f hc hf
      refine s_no rfl rfl ?_
      refine s_no rfl rfl ?_
      refine s_no rfl rfl ?_
      refine s_v rfl rfl rfl ?_
      have hq := Option.some.inj hf
      subst hq
      replace hle := hle.trans hkk1
      replace h65 := h65.mono hk74
      refine r_join hJ _ ⟨K73, C75, C67, rfl, hle, h76, h65, hS⟩ ⟨rfl, rfl, rfl, rfl, rfl, rfl, rfl, trivial⟩
    replace hf := bif_t hc hf
    iterate 4 refine s_v rfl rfl rfl ?_
    have hq := Option.some.inj hf
    subst hq
    replace hle := hle.trans hkk1
    replace h65 := h65.mono hk74
    refine r_join hJ _ ⟨K73, C75, C67, rfl, hle, h76, h65, hS⟩ ⟨rfl, rfl, rfl, rfl, rfl, rfl, rfl, trivial⟩
  rintro _ w ⟨K78, C80, C85, rfl, hle, h79, h82, hS⟩
  refine s_v rfl rfl rfl ?_
  obtain ⟨s102, hst103, hf⟩ := bs hf
  refine r_cut [_, _, _, _, _] (fun τ w => ∃ (K98 : KM) (C100 : Chunks), τ = [(1, (.pointer (some ⟨b13, 0, none⟩))), (3, (.int .i64 x30.1)), (4, (.bool x30.2.1)), (5, (.bool x37.1)), (6, (.int .i64 x51.1)), (48, (.bool s102))] ∧ KM.le K K98 ∧ SetO 59 K98 b13 x71.2 C100 ∧ Sat w K98 (flat [C100, L])) rfl (fun J hJ => ?_) ?_
  · replace hf := hst103
    cases hc : s87
    · replace hf := bif_f hc hf
      refine s_no rfl rfl ?_
      refine s_no rfl rfl ?_
      refine s_no rfl rfl ?_
      refine s_no rfl rfl ?_
      refine s_v rfl rfl rfl ?_
      have hq := Option.some.inj hf
      subst hq
      refine r_join hJ _ ⟨K78, C80, rfl, hle, h79, (hS.sel [0, 2] rfl)⟩ ⟨rfl, rfl, rfl, rfl, rfl, rfl, trivial⟩
    replace hf := bif_t hc hf
    refine s_v rfl rfl rfl ?_
    obtain ⟨x104, hx105, hf⟩ := bs hf
    refine s_ixo 1 hS rfl h82 hx105 rfl rfl rfl rfl rfl rfl rfl ?_
    intro b106 l107 cs110 l108 hcs_ hC111 hun109
    obtain rfl := hcs_
    subst hC111
    have hq112 := KM.le.refl K78
    refine s_ldm 1 0 hS rfl rfl rfl rfl rfl ?_
    iterate 2 refine s_v rfl rfl rfl ?_
    have hq := Option.some.inj hf
    subst hq
    refine r_join hJ _ ⟨K78, C80, rfl, hle, h79, (hS.sel [0, 2] rfl)⟩ ⟨rfl, rfl, rfl, rfl, rfl, rfl, trivial⟩
  rintro _ w ⟨K98, C100, rfl, hle, h99, hS⟩
  refine s_v rfl rfl rfl ?_
  obtain ⟨s124, hst125, hf⟩ := bs hf
  refine r_cut [_, _, _] (fun τ w => ∃ (K120 : KM) (C122 : Chunks), τ = [(1, (.pointer (some ⟨b13, 0, none⟩))), (3, (.int .i64 x30.1)), (4, (.bool x30.2.1)), (5, (.bool x37.1)), (6, (.int .i64 x51.1)), (52, (.bool s124.2))] ∧ KM.le K K120 ∧ SetO 59 K120 b13 s124.1 C122 ∧ Sat w K120 (flat [C122, L])) rfl (fun J hJ => ?_) ?_
  · replace hf := hst125
    cases hc : s102
    · replace hf := bif_f hc hf
      refine s_no rfl rfl ?_
      refine s_no rfl rfl ?_
      refine s_v rfl rfl rfl ?_
      have hq := Option.some.inj hf
      subst hq
      refine r_join hJ _ ⟨K98, C100, rfl, hle, h99, hS⟩ ⟨rfl, rfl, rfl, rfl, rfl, rfl, trivial⟩
    replace hf := bif_t hc hf
    refine s_v rfl rfl rfl ?_
    obtain ⟨x126, hx127, hf⟩ := bs hf
    refine s_call isf20 (Sat.shut1 hS) (set_Set_string_Has_spec hx127 h99) rfl rfl rfl ?_
    rintro _ K128 C130 w hk129 ⟨rfl, h131⟩ hS
    refine s_v rfl rfl rfl ?_
    have hq := Option.some.inj hf
    subst hq
    replace hle := hle.trans hk129
    refine r_join hJ _ ⟨K128, C130, rfl, hle, h131, hS⟩ ⟨rfl, rfl, rfl, rfl, rfl, rfl, trivial⟩
  rintro _ w ⟨K120, C122, rfl, hle, h121, hS⟩
  refine s_v rfl rfl rfl ?_
  obtain ⟨s141, hst142, hf⟩ := bs hf
  refine r_cut [_, _, _, _] (fun τ w => ∃ (K140 : KM), τ = [(3, (.int .i64 x30.1)), (4, (.bool x30.2.1)), (5, (.bool x37.1)), (6, (.int .i64 x51.1)), (57, (.bool s141))] ∧ KM.le K K140 ∧ Sat w K140 (flat [L])) rfl (fun J hJ => ?_) ?_
  · replace hf := hst142
    cases hc : s124.2
    · replace hf := bif_f hc hf
      refine s_no rfl rfl ?_
      refine s_no rfl rfl ?_
      refine s_no rfl rfl ?_
      refine s_v rfl rfl rfl ?_
      have hq := Option.some.inj hf
      subst hq
      refine r_join hJ _ ⟨K120, rfl, hle, (hS.sel [1] rfl)⟩ ⟨rfl, rfl, rfl, rfl, rfl, trivial⟩
    replace hf := bif_t hc hf
    refine s_v rfl rfl rfl ?_
    obtain ⟨x143, hx144, hf⟩ := bs hf
    refine s_call isf29 (Sat.shut1 hS) (set_Set_string_Add_spec hx144 h121) rfl rfl rfl ?_
    rintro _ K145 C147 w hk146 ⟨rfl, h148⟩ hS
    iterate 2 refine s_v rfl rfl rfl ?_
    have hq := Option.some.inj hf
    subst hq
    replace hle := hle.trans hk146
    refine r_join hJ _ ⟨K145, rfl, hle, (hS.sel [1] rfl)⟩ ⟨rfl, rfl, rfl, rfl, rfl, trivial⟩
  rintro _ w ⟨K140, rfl, hle, hS⟩
  refine s_v rfl rfl rfl ?_
  obtain ⟨s151, hst152, hf⟩ := bs hf
  refine r_cut [_, _] (fun τ w => ∃ (K150 : KM), τ = [(3, (.int .i64 x30.1)), (5, (.bool x37.1)), (6, (.int .i64 x51.1)), (60, (.bool s151))] ∧ KM.le K K150 ∧ Sat w K150 (flat [L])) rfl (fun J hJ => ?_) ?_
  · replace hf := hst152
    cases hc : s141
    · replace hf := bif_f hc hf
      refine s_no rfl rfl ?_
      refine s_v rfl rfl rfl ?_
      have hq := Option.some.inj hf
      subst hq
      refine r_join hJ _ ⟨K140, rfl, hle, hS⟩ ⟨rfl, rfl, rfl, rfl, trivial⟩
    replace hf := bif_t hc hf
    iterate 2 refine s_v rfl rfl rfl ?_
    have hq := Option.some.inj hf
    subst hq
    refine r_join hJ _ ⟨K140, rfl, hle, hS⟩ ⟨rfl, rfl, rfl, rfl, trivial⟩
  rintro _ w ⟨K150, rfl, hle, hS⟩
  refine s_v rfl rfl rfl ?_
  obtain ⟨s154, hst155, hf⟩ := bs hf
  refine r_cut [_, _, _] (fun τ w => ∃ (K153 : KM), τ = [(5, (.bool x37.1)), (6, (.int .i64 x51.1)), (64, (.bool s154))] ∧ KM.le K K153 ∧ Sat w K153 (flat [L])) rfl (fun J hJ => ?_) ?_
  · replace hf := hst155
    cases hc : s151
    · replace hf := bif_f hc hf
      refine s_no rfl rfl ?_
      refine s_no rfl rfl ?_
      refine s_v rfl rfl rfl ?_
      have hq := Option.some.inj hf
      subst hq
      refine r_join hJ _ ⟨K150, rfl, hle, hS⟩ ⟨rfl, rfl, rfl, trivial⟩
    replace hf := bif_t hc hf
    iterate 3 refine s_v rfl rfl rfl ?_
    have hq := Option.some.inj hf
    subst hq
    refine r_join hJ _ ⟨K150, rfl, hle, hS⟩ ⟨rfl, rfl, rfl, trivial⟩
  rintro _ w ⟨K153, rfl, hle, hS⟩
  refine s_v rfl rfl rfl ?_
  obtain ⟨s157, hst158, hf⟩ := bs hf
  refine r_cut [_, _, _] (fun τ w => ∃ (K156 : KM), τ = [(6, (.int .i64 x51.1)), (68, (.bool s157))] ∧ KM.le K K156 ∧ Sat w K156 (flat [L])) rfl (fun J hJ => ?_) ?_
  · replace hf := hst158
    cases hc : s154
    · replace hf := bif_f hc hf
      refine s_no rfl rfl ?_
      refine s_no rfl rfl ?_
      refine s_v rfl rfl rfl ?_
      have hq := Option.some.inj hf
      subst hq
      refine r_join hJ _ ⟨K153, rfl, hle, hS⟩ ⟨rfl, rfl, trivial⟩
    replace hf := bif_t hc hf
    iterate 3 refine s_v rfl rfl rfl ?_
    have hq := Option.some.inj hf
    subst hq
    refine r_join hJ _ ⟨K153, rfl, hle, hS⟩ ⟨rfl, rfl, trivial⟩
  rintro _ w ⟨K156, rfl, hle, hS⟩
  refine s_v rfl rfl rfl ?_
  obtain ⟨s160, hst161, hf⟩ := bs hf
  refine r_cut [_, _, _] (fun τ w => ∃ (K159 : KM), τ = [(72, (.bool s160))] ∧ KM.le K K159 ∧ Sat w K159 (flat [L])) rfl (fun J hJ => ?_) ?_
  · replace hf := hst161
    cases hc : s157
    · replace hf := bif_f hc hf
      refine s_no rfl rfl ?_
      refine s_no rfl rfl ?_
      refine s_v rfl rfl rfl ?_
      have hq := Option.some.inj hf
      subst hq
      refine r_join hJ _ ⟨K156, rfl, hle, hS⟩ ⟨rfl, trivial⟩
    replace hf := bif_t hc hf
    iterate 3 refine s_v rfl rfl rfl ?_
    have hq := Option.some.inj hf
    subst hq
    refine r_join hJ _ ⟨K156, rfl, hle, hS⟩ ⟨rfl, trivial⟩
  rintro _ w ⟨K159, rfl, hle, hS⟩
  refine s_v rfl rfl rfl ?_
  refine s_nil (qn (s_rets ?_))
  have hq := Option.some.inj hf
  subst hq
  refine s_ret1 rfl (rv_t rfl) ?_
  exact ⟨K159, _, hle, rfl, Sat.nilG (hS.sel [0] rfl)⟩
end Go.Proofs.Ytdgpckcphkpclaa
