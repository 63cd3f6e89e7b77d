/- Functions of the program, and their walks: what each reckons, and that its code reckons it. -/
import Derived.Test.YtgaldjnnfkdohaaFd
set_option linter.unusedVariables false
set_option linter.unusedSimpArgs false
set_option maxHeartbeats 0
set_option maxRecDepth 100000
namespace Go.Proofs.Ytgaldjnnfkdohaa
open Go Go.Fw
noncomputable def bod52 : Code := Try.f52.body.getD .skip
theorem isf52 : IsFn Try.prog 52 Try.f52 bod52 := ⟨Try.func52, rfl, by decide⟩
-- 52 bonsai/bonsaiseat.family
def bonsaiseat_family.fn (p1 : Arr4_uint8) : Option (List api_Class) := (bonsaiseat_typ.fn 1).bind fun x7 => (bonsaiseat_ref.fn (⟨#[66, 97, 115, 101]⟩ : ByteArray)).bind fun x12 => (bonsaiseat_typ.fn 1).bind fun x17 => (bonsaiseat_typ.fn 2).bind fun x22 => (bonsaiseat_typ.fn 2).bind fun x31 => (bonsaiseat_str.fn (⟨#[98, 97, 115, 101]⟩ : ByteArray)).bind fun x36 => (bonsaiseat_one.fn 39).bind fun x41 => (bonsaiseat_method.fn (⟨#[110, 97, 109, 101]⟩ : ByteArray) [] x31 false 1 [x36, x41]).bind fun x52 => (bif (iand .u8 p1.e0 1) == 1 then ((bonsaiseat_typ.fn 1).bind fun x125 => guardB (roomy [x52].length 1 128) (some ([x52] ++ ([(api_Method.mk (⟨#[114, 117, 110]⟩ : ByteArray) [] (api_Type.mk x125.Kind x125.Class) false true 0 [] [])] : List api_Method)))) else (some [x52])).bind fun s110 => (bif (iand .u8 p1.e0 2) == 2 then ((bonsaiseat_clinit.fn (⟨#[98, 97, 115, 101]⟩ : ByteArray)).bind fun x224 => guardB (roomy s110.length 1 128) (some (s110 ++ ([x224] : List api_Method)))) else (some s110)).bind fun s201 => (bonsaiseat_typ.fn 1).bind fun x276 => (bonsaiseat_run.fn (⟨#[65]⟩ : ByteArray) p1.e1).bind fun x316 => (bif (iand .u8 p1.e0 4) == 4 then ((bonsaiseat_clinit.fn (⟨#[97]⟩ : ByteArray)).bind fun x474 => guardB (roomy [x316].length 1 128) (some ([x316] ++ ([x474] : List api_Method)))) else (some [x316])).bind fun s451 => (idx ([1, 3] : List Int) (Int.tmod (w8 (Int.tdiv p1.e0 8)) 2)).bind fun x499 => (bif (iand .u8 p1.e0 16) == 16 then ((bonsaiseat_run.fn (⟨#[66]⟩ : ByteArray) p1.e2).bind fun x609 => guardB (roomy ([] : List api_Method).length 1 128) (some (([] : List api_Method) ++ ([x609] : List api_Method)))) else (some ([] : List api_Method))).bind fun s585 => (bif (iand .u8 p1.e0 32) == 32 then ((bonsaiseat_typ.fn 2).bind fun x836 => (bonsaiseat_at.fn 4 0).bind fun x841 => (bonsaiseat_call.fn 37 (⟨#[65]⟩ : ByteArray) (⟨#[110, 97, 109, 101]⟩ : ByteArray) (⟨#[40, 41, 83]⟩ : ByteArray)).bind fun x846 => (bonsaiseat_str.fn (⟨#[43, 98]⟩ : ByteArray)).bind fun x851 => (bonsaiseat_one.fn 16).bind fun x856 => (bonsaiseat_one.fn 39).bind fun x861 => (bonsaiseat_method.fn (⟨#[110, 97, 109, 101]⟩ : ByteArray) [] x836 false 1 [x841, x846, x851, x856, x861]).bind fun x872 => guardB (roomy s585.length 1 128) (some (s585 ++ ([x872] : List api_Method)))) else (some s585)).bind fun s777 => (bonsaiseat_typ.fn 1).bind fun x893 => (bif (iand .u8 p1.e0 64) == 64 then (some ([(⟨#[74]⟩ : ByteArray)] : List ByteArray)) else (some ([] : List ByteArray))).bind fun s945 => (bonsaiseat_run.fn (⟨#[67]⟩ : ByteArray) p1.e3).bind fun x953 => (bonsaiseat_typ.fn 1).bind fun x967 => (bonsaiseat_at.fn 4 0).bind fun x972 => (bonsaiseat_part.fn 26 (⟨#[77, 105, 100]⟩ : ByteArray) (⟨#[109]⟩ : ByteArray)).bind fun x977 => (bonsaiseat_one.fn 39).bind fun x982 => (bonsaiseat_method.fn (⟨#[101, 120, 116, 114, 97]⟩ : ByteArray) [] x967 false 1 [x972, x977, x982]).bind fun x993 => (bif (iand .u8 p1.e0 128) == 128 then ((bonsaiseat_typ.fn 2).bind fun x1233 => (bonsaiseat_at.fn 4 0).bind fun x1238 => (bonsaiseat_call.fn 37 (⟨#[77, 105, 100]⟩ : ByteArray) (⟨#[110, 97, 109, 101]⟩ : ByteArray) (⟨#[40, 41, 83]⟩ : ByteArray)).bind fun x1243 => (bonsaiseat_str.fn (⟨#[43, 99]⟩ : ByteArray)).bind fun x1248 => (bonsaiseat_one.fn 16).bind fun x1253 => (bonsaiseat_one.fn 39).bind fun x1258 => (bonsaiseat_method.fn (⟨#[110, 97, 109, 101]⟩ : ByteArray) [] x1233 false 1 [x1238, x1243, x1248, x1253, x1258]).bind fun x1269 => guardB (roomy [x953, x993].length 1 128) (some ([x953, x993] ++ ([x1269] : List api_Method)))) else (some [x953, x993])).bind fun s1173 => (bonsaiseat_typ.fn 1).bind fun x1342 => (bonsaiseat_typ.fn 2).bind fun x1357 => (bonsaiseat_run.fn (⟨#[68]⟩ : ByteArray) (w8 (p1.e1 + p1.e2))).bind fun x1417 => (bif (iand .u8 p1.e1 1) == 1 then ((bonsaiseat_clinit.fn (⟨#[100]⟩ : ByteArray)).bind fun x1620 => guardB (roomy [x1417].length 1 128) (some ([x1417] ++ ([x1620] : List api_Method)))) else (some [x1417])).bind fun s1597 => some [(api_Class.mk (⟨#[66, 97, 115, 101]⟩ : ByteArray) (⟨#[79, 98, 106, 101, 99, 116]⟩ : ByteArray) [(⟨#[73]⟩ : ByteArray)] 2 [(api_Field.mk (⟨#[120]⟩ : ByteArray) (api_Type.mk x7.Kind x7.Class) false), (api_Field.mk (⟨#[110, 101, 120, 116]⟩ : ByteArray) (api_Type.mk x12.Kind x12.Class) false), (api_Field.mk (⟨#[119]⟩ : ByteArray) (api_Type.mk x17.Kind x17.Class) false), (api_Field.mk (⟨#[117, 110, 117, 115, 101, 100]⟩ : ByteArray) (api_Type.mk x22.Kind x22.Class) false)] s201), (api_Class.mk (⟨#[65]⟩ : ByteArray) (⟨#[66, 97, 115, 101]⟩ : ByteArray) [] 1 [(api_Field.mk (⟨#[99, 111, 117, 110, 116]⟩ : ByteArray) (api_Type.mk x276.Kind x276.Class) true)] s451), (api_Class.mk (⟨#[66]⟩ : ByteArray) (⟨#[65]⟩ : ByteArray) [] x499 [] s777), (api_Class.mk (⟨#[77, 105, 100]⟩ : ByteArray) (⟨#[66, 97, 115, 101]⟩ : ByteArray) s945 2 [(api_Field.mk (⟨#[109]⟩ : ByteArray) (api_Type.mk x893.Kind x893.Class) false)] []), (api_Class.mk (⟨#[67]⟩ : ByteArray) (⟨#[77, 105, 100]⟩ : ByteArray) [] 1 [] s1173), (api_Class.mk (⟨#[68]⟩ : ByteArray) (⟨#[66, 97, 115, 101]⟩ : ByteArray) ([(⟨#[74]⟩ : ByteArray)] : List ByteArray) 3 [(api_Field.mk (⟨#[119, 97, 115, 116, 101]⟩ : ByteArray) (api_Type.mk x1342.Kind x1342.Class) true), (api_Field.mk (⟨#[120]⟩ : ByteArray) (api_Type.mk x1357.Kind x1357.Class) false)] s1597)]
theorem bonsaiseat_family_spec {K : KM} {p1 : Arr4_uint8} {r : (List api_Class)} (hf : bonsaiseat_family.fn p1 = some r) : Sp Try.prog 52 [(.agg (vv68 p1).toArray)] K [] (fun K' C v => ∃ (a1683 : Option Addr) (c1684 : Nat), v = (.slice a1683 r.length c1684) ∧ SlK 81 K' a1683 c1684 r) := by
  unfold bonsaiseat_family.fn at hf
  refine spec_enter isf52 rfl ?_
  intro w L hS
  replace hS : Sat w K (flat [L]) := hS
  have hle := KM.le.refl K
  unfold bod52 Try.f52
  dsimp only [Option.getD_some, argSlots]
  refine s_seq (s_reg ?_)
  refine s_bx hS rfl rfl rfl ?_
  intro b3 w hS
  replace hS : Sat w K (flat ([(b3, Cl (vv68 p1) 68)] :: _)) := hS
  refine s_v rfl rfl rfl ?_
  refine s_nil (qn (s_seq (s_reg ?_)))
  refine s_v rfl rfl rfl ?_
  refine s_nil (qn (s_seq (s_reg ?_)))
  refine s_bwc (cs := [(.string (⟨#[73]⟩ : ByteArray))]) hS rfl rfl rfl rfl rfl rfl rfl rfl rfl rfl ?_
  intro b5 w hS
  obtain ⟨x7, hx8, hf⟩ := bs hf
  refine s_call isf46 hS.nilG (bonsaiseat_typ_spec hx8) rfl rfl rfl ?_
  rintro _ K9 C11 w hk10 rfl hS
  replace hS := hS.drop1
  refine s_v (v := (.agg #[(.string (⟨#[120]⟩ : ByteArray)), (.int .i64 x7.Kind), (.string x7.Class), (.bool false)])) rfl rfl rfl ?_
  obtain ⟨x12, hx13, hf⟩ := bs hf
  refine s_call isf63 hS.nilG (bonsaiseat_ref_spec hx13) rfl rfl rfl ?_
  rintro _ K14 C16 w hk15 rfl hS
  replace hS := hS.drop1
  refine s_v (v := (.agg #[(.string (⟨#[110, 101, 120, 116]⟩ : ByteArray)), (.int .i64 x12.Kind), (.string x12.Class), (.bool false)])) rfl rfl rfl ?_
  obtain ⟨x17, hx18, hf⟩ := bs hf
  refine s_call isf46 hS.nilG (bonsaiseat_typ_spec hx18) rfl rfl rfl ?_
  rintro _ K19 C21 w hk20 rfl hS
  replace hS := hS.drop1
  refine s_v (v := (.agg #[(.string (⟨#[119]⟩ : ByteArray)), (.int .i64 x17.Kind), (.string x17.Class), (.bool false)])) rfl rfl rfl ?_
  obtain ⟨x22, hx23, hf⟩ := bs hf
  refine s_call isf46 hS.nilG (bonsaiseat_typ_spec hx23) rfl rfl rfl ?_
  rintro _ K24 C26 w hk25 rfl hS
  replace hS := hS.drop1
  refine s_v (v := (.agg #[(.string (⟨#[117, 110, 117, 115, 101, 100]⟩ : ByteArray)), (.int .i64 x22.Kind), (.string x22.Class), (.bool false)])) rfl rfl rfl ?_
  refine s_bwc (cs := [(.string (⟨#[120]⟩ : ByteArray)), (.int .i64 x7.Kind), (.string x7.Class), (.bool false), (.string (⟨#[110, 101, 120, 116]⟩ : ByteArray)), (.int .i64 x12.Kind), (.string x12.Class), (.bool false), (.string (⟨#[119]⟩ : ByteArray)), (.int .i64 x17.Kind), (.string x17.Class), (.bool false), (.string (⟨#[117, 110, 117, 115, 101, 100]⟩ : ByteArray)), (.int .i64 x22.Kind), (.string x22.Class), (.bool false)]) hS rfl rfl rfl rfl rfl rfl rfl rfl rfl rfl ?_
  intro b27 w hS
  refine s_v (v := (.agg #[(.string (⟨#[66, 97, 115, 101]⟩ : ByteArray)), (.string (⟨#[79, 98, 106, 101, 99, 116]⟩ : ByteArray)), (.slice (some ⟨b5, 0, none⟩) 1 1), (.int .i64 2), (.slice (some ⟨b27, 0, none⟩) 4 4), (.slice none 0 0)])) rfl rfl rfl ?_
  refine s_al hS rfl rfl rfl ?_
  intro b29 w hS
  replace hS : Sat w K24 (flat ([(b29, Cl [(.string ByteArray.empty), (.string ByteArray.empty), (.slice none 0 0), (.int .i64 0), (.slice none 0 0), (.slice none 0 0)] 81)] :: _)) := hS
  refine s_st (cs' := [(.string (⟨#[66, 97, 115, 101]⟩ : ByteArray)), (.string (⟨#[79, 98, 106, 101, 99, 116]⟩ : ByteArray)), (.slice (some ⟨b5, 0, none⟩) 1 1), (.int .i64 2), (.slice (some ⟨b27, 0, none⟩) 4 4), (.slice none 0 0)]) 0 hS rfl rfl rfl rfl rfl ?_
  intro w hS
  replace hS : Sat w _ (flat [_, _, _, _, _]) := hS
  refine s_nil (qn (s_seq (s_reg ?_)))
  refine s_v rfl rfl rfl ?_
  obtain ⟨x31, hx32, hf⟩ := bs hf
  refine s_call isf46 hS.nilG (bonsaiseat_typ_spec hx32) rfl rfl rfl ?_
  rintro _ K33 C35 w hk34 rfl hS
  replace hS := hS.drop1
  obtain ⟨x36, hx37, hf⟩ := bs hf
  refine s_call isf60 hS.nilG (bonsaiseat_str_spec hx37) rfl rfl rfl ?_
  rintro _ K38 C40 w hk39 rfl hS
  replace hS := hS.drop1
  obtain ⟨x41, hx42, hf⟩ := bs hf
  refine s_call isf50 hS.nilG (bonsaiseat_one_spec hx42) rfl rfl rfl ?_
  rintro _ K43 C45 w hk44 rfl hS
  replace hS := hS.drop1
  refine s_bwc (cs := ((vv77 x36) ++ ((vv77 x41) ++ []))) hS rfl rfl rfl rfl rfl rfl rfl rfl rfl rfl ?_
  intro b46 w hS
  have h48 : OwnS 77 K43 (.slice (some ⟨b46, 0, none⟩) 2 2) [x36, x41] [(b46, Cl ((vv77 x36) ++ ((vv77 x41) ++ [])) 77)] := OwnS.lit ⟨(vv77 x36), _, rfl, rfl, ⟨(vv77 x41), _, rfl, rfl, rfl⟩⟩ rfl rfl
  obtain ⟨K49, hk50, h51, hS⟩ := h48.freeze (hS.sel [0, 1, 2, 3, 4, 5] rfl)
  replace hS : Sat w _ (flat [_, _, _, _, _]) := hS
  obtain ⟨x52, hx53, hf⟩ := bs hf
  refine s_call isf48 hS.nilG (bonsaiseat_method_spec hx53 SlK.nil h51) rfl rfl rfl ?_
  rintro _ K54 C56 w hk55 ⟨a57, c58, a60, c61, a63, c64, rfl, h59, h62, h65⟩ hS
  replace hS := hS.drop1
  refine s_bwc (cs := (vv67 x52 a57 c58 a60 c61 a63 c64)) hS rfl rfl rfl rfl rfl rfl rfl rfl rfl rfl ?_
  intro b66 w hS
  refine s_v rfl rfl rfl ?_
  refine s_st (cs' := [(.string (⟨#[66, 97, 115, 101]⟩ : ByteArray)), (.string (⟨#[79, 98, 106, 101, 99, 116]⟩ : ByteArray)), (.slice (some ⟨b5, 0, none⟩) 1 1), (.int .i64 2), (.slice (some ⟨b27, 0, none⟩) 4 4), (.slice (some ⟨b66, 0, none⟩) 1 1)]) 1 hS rfl rfl rfl rfl rfl ?_
  intro w hS
  replace hS : Sat w _ (flat [_, _, _, _, _, _]) := hS
  refine s_nil (qn ?_)
  obtain ⟨s110, hst111, hf⟩ := bs hf
  have hkk0 := (((((((hk10.trans hk15).trans hk20).trans hk25).trans hk34).trans hk39).trans hk44).trans hk50).trans hk55
  refine s_cut (fun τ w => ∃ (K94 : KM) (a96 : Option Addr) (c97 : Nat) (C98 : Chunks) (a101 : Option Addr) (c102 : Nat) (C103 : Chunks) (a106 : Option Addr) (c107 : Nat) (C108 : Chunks), τ = [(1, (.pointer (some ⟨b3, 0, none⟩))), (3, (.slice none 0 0)), (4, (.pointer (some ⟨b29, 0, none⟩)))] ∧ KM.le K K94 ∧ OwnS 9 K94 (.slice a96 ([(⟨#[73]⟩ : ByteArray)].length) c97) [(⟨#[73]⟩ : ByteArray)] C98 ∧ OwnS 97 K94 (.slice a101 ([(api_Field.mk (⟨#[120]⟩ : ByteArray) (api_Type.mk x7.Kind x7.Class) false), (api_Field.mk (⟨#[110, 101, 120, 116]⟩ : ByteArray) (api_Type.mk x12.Kind x12.Class) false), (api_Field.mk (⟨#[119]⟩ : ByteArray) (api_Type.mk x17.Kind x17.Class) false), (api_Field.mk (⟨#[117, 110, 117, 115, 101, 100]⟩ : ByteArray) (api_Type.mk x22.Kind x22.Class) false)].length) c102) [(api_Field.mk (⟨#[120]⟩ : ByteArray) (api_Type.mk x7.Kind x7.Class) false), (api_Field.mk (⟨#[110, 101, 120, 116]⟩ : ByteArray) (api_Type.mk x12.Kind x12.Class) false), (api_Field.mk (⟨#[119]⟩ : ByteArray) (api_Type.mk x17.Kind x17.Class) false), (api_Field.mk (⟨#[117, 110, 117, 115, 101, 100]⟩ : ByteArray) (api_Type.mk x22.Kind x22.Class) false)] C103 ∧ OwnS 67 K94 (.slice a106 s110.length c107) s110 C108 ∧ Sat w K94 (flat [[(b3, Cl (vv68 p1) 68)], [(b29, Cl [(.string (⟨#[66, 97, 115, 101]⟩ : ByteArray)), (.string (⟨#[79, 98, 106, 101, 99, 116]⟩ : ByteArray)), (.slice a96 ([(⟨#[73]⟩ : ByteArray)].length) c97), (.int .i64 2), (.slice a101 ([(api_Field.mk (⟨#[120]⟩ : ByteArray) (api_Type.mk x7.Kind x7.Class) false), (api_Field.mk (⟨#[110, 101, 120, 116]⟩ : ByteArray) (api_Type.mk x12.Kind x12.Class) false), (api_Field.mk (⟨#[119]⟩ : ByteArray) (api_Type.mk x17.Kind x17.Class) false), (api_Field.mk (⟨#[117, 110, 117, 115, 101, 100]⟩ : ByteArray) (api_Type.mk x22.Kind x22.Class) false)].length) c102), (.slice a106 s110.length c107)] 81)], C98, C103, C108, L])) (fun J hJ => ?_) ?_
  · replace hf := hst111
    refine s_seq (s_reg ?_)
    refine s_v rfl rfl rfl ?_
    refine s_ld 4 hS rfl rfl rfl rfl rfl ?_
    iterate 2 refine s_v rfl rfl rfl ?_
    refine s_nil (qn ?_)
    refine s_if rfl (fun hc => ?_) (fun hc => ?_)
    · replace hf := bif_t hc hf
      refine d_start [] [(7, [1])] hS ?_
      intro w hS
      refine d_v 0 (fun _ _ _ _ _ h => h) [] hS rfl rfl rfl (by kernel_rfl) rfl rfl ?_
      refine d_ldh 1 0 (fun _ _ _ _ _ h => h) [] hS rfl rfl rfl (by kernel_rfl) rfl rfl (by kernel_rfl) rfl rfl ?_
      refine d_op 2 rfl (by kernel_rfl) (by kernel_rfl) (fun X hX => ?_)
      have hlq := KM.le.refl K54
      obtain ⟨x125, hx126, hf⟩ := bs hf
      refine s_call isf46 hS.nilG (bonsaiseat_typ_spec hx126) rfl rfl rfl ?_
      rintro _ K127 C129 w hk128 rfl hS
      replace hS := hS.drop1
      replace hlq := hlq.trans hk128
      refine d_go [] [] [(7, [1])] [some 0] hX hS hlq rfl rfl ⟨rfl, trivial⟩ ?_
      refine d_v (v := (.agg #[(.string (⟨#[114, 117, 110]⟩ : ByteArray)), (.slice none 0 0), (.int .i64 x125.Kind), (.string x125.Class), (.bool false), (.bool true), (.int .i64 0), (.slice none 0 0), (.slice none 0 0)])) 3 (fun _ _ _ _ _ h => h) [] hS rfl rfl rfl (by kernel_rfl) rfl rfl ?_
      refine d_op 4 rfl (by kernel_rfl) (by kernel_rfl) (fun X hX => ?_)
      have hlq := KM.le.refl K127
      refine s_bwc (cs := [(.string (⟨#[114, 117, 110]⟩ : ByteArray)), (.slice none 0 0), (.int .i64 x125.Kind), (.string x125.Class), (.bool false), (.bool true), (.int .i64 0), (.slice none 0 0), (.slice none 0 0)]) hS rfl rfl rfl rfl rfl rfl rfl rfl rfl rfl ?_
      intro b130 w hS
      refine d_go [] [] [(7, [2])] [some 0] hX hS hlq rfl rfl ⟨rfl, trivial⟩ ?_
      refine d_op 5 rfl (by kernel_rfl) (by kernel_rfl) (fun X hX => ?_)
      have hlq := KM.le.refl K127
      replace h59 := h59.mono hk128
      replace h62 := h62.mono hk128
      replace h65 := h65.mono hk128
      have h132 : OwnS 67 K127 (.slice (some ⟨b66, 0, none⟩) 1 1) [x52] [(b66, Cl (vv67 x52 a57 c58 a60 c61 a63 c64) 67)] := OwnS.lit ⟨(vv67 x52 a57 c58 a60 c61 a63 c64), _, rfl, ⟨a57, c58, a60, c61, a63, c64, rfl, h59, h62, h65⟩, rfl⟩ rfl rfl
      obtain ⟨hm133, hf⟩ := gs hf
      refine s_appv (e := 67) (ys := ([(api_Method.mk (⟨#[114, 117, 110]⟩ : ByteArray) [] (api_Type.mk x125.Kind x125.Class) false true 0 [] [])] : List api_Method)) 1 0 hS rfl h132 rfl ⟨[(.string (⟨#[114, 117, 110]⟩ : ByteArray)), (.slice none 0 0), (.int .i64 x125.Kind), (.string x125.Class), (.bool false), (.bool true), (.int .i64 0), (.slice none 0 0), (.slice none 0 0)], _, rfl, ⟨none, 0, none, 0, none, 0, rfl, SlK.nil, SlK.nil, SlK.nil⟩, rfl⟩ rfl rfl rfl rfl rfl rfl rfl rfl (roomy_le hm133) rfl rfl rfl ?_
      intro a134 c135 w C136 h137 hS
      replace hS : Sat w _ (flat [_, _, _, _, _, _, _]) := hS
      refine d_go [] [] [(7, [2])] [some 0] hX hS hlq rfl rfl ⟨rfl, trivial⟩ ?_
      refine d_v 6 (fun _ _ _ _ _ h => h) [] hS rfl rfl rfl (by kernel_rfl) rfl rfl ?_
      refine d_op 7 rfl (by kernel_rfl) (by kernel_rfl) (fun X hX => ?_)
      have hlq := KM.le.refl K127
      refine s_st (cs' := [(.string (⟨#[66, 97, 115, 101]⟩ : ByteArray)), (.string (⟨#[79, 98, 106, 101, 99, 116]⟩ : ByteArray)), (.slice (some ⟨b5, 0, none⟩) 1 1), (.int .i64 2), (.slice (some ⟨b27, 0, none⟩) 4 4), (.slice a134 (([x52] ++ ([(api_Method.mk (⟨#[114, 117, 110]⟩ : ByteArray) [] (api_Type.mk x125.Kind x125.Class) false true 0 [] [])] : List api_Method)).length) c135)]) 2 hS rfl rfl rfl rfl rfl ?_
      intro w hS
      replace hS : Sat w _ (flat [_, _, _, _, _, _, _]) := hS
      refine d_go [] [2] [] [none] hX hS hlq rfl rfl ⟨rfl, trivial⟩ ?_
      refine d_end (by kernel_rfl) ?_
      refine qn ?_
      have h138 : OwnS 9 K127 (.slice (some ⟨b5, 0, none⟩) 1 1) ([(⟨#[73]⟩ : ByteArray)] : List ByteArray) [(b5, Cl [(.string (⟨#[73]⟩ : ByteArray))] 9)] := OwnS.lit ⟨[(.string (⟨#[73]⟩ : ByteArray))], _, rfl, rfl, rfl⟩ rfl rfl
      have h139 : OwnS 97 K127 (.slice (some ⟨b27, 0, none⟩) 4 4) [(api_Field.mk (⟨#[120]⟩ : ByteArray) (api_Type.mk x7.Kind x7.Class) false), (api_Field.mk (⟨#[110, 101, 120, 116]⟩ : ByteArray) (api_Type.mk x12.Kind x12.Class) false), (api_Field.mk (⟨#[119]⟩ : ByteArray) (api_Type.mk x17.Kind x17.Class) false), (api_Field.mk (⟨#[117, 110, 117, 115, 101, 100]⟩ : ByteArray) (api_Type.mk x22.Kind x22.Class) false)] [(b27, Cl [(.string (⟨#[120]⟩ : ByteArray)), (.int .i64 x7.Kind), (.string x7.Class), (.bool false), (.string (⟨#[110, 101, 120, 116]⟩ : ByteArray)), (.int .i64 x12.Kind), (.string x12.Class), (.bool false), (.string (⟨#[119]⟩ : ByteArray)), (.int .i64 x17.Kind), (.string x17.Class), (.bool false), (.string (⟨#[117, 110, 117, 115, 101, 100]⟩ : ByteArray)), (.int .i64 x22.Kind), (.string x22.Class), (.bool false)] 97)] := OwnS.lit ⟨[(.string (⟨#[120]⟩ : ByteArray)), (.int .i64 x7.Kind), (.string x7.Class), (.bool false)], _, rfl, rfl, ⟨[(.string (⟨#[110, 101, 120, 116]⟩ : ByteArray)), (.int .i64 x12.Kind), (.string x12.Class), (.bool false)], _, rfl, rfl, ⟨[(.string (⟨#[119]⟩ : ByteArray)), (.int .i64 x17.Kind), (.string x17.Class), (.bool false)], _, rfl, rfl, ⟨[(.string (⟨#[117, 110, 117, 115, 101, 100]⟩ : ByteArray)), (.int .i64 x22.Kind), (.string x22.Class), (.bool false)], _, rfl, rfl, rfl⟩⟩⟩⟩ rfl rfl
      have hq := Option.some.inj hf
      subst hq
      replace hle := hle.trans (hkk0.trans hk128)
      refine s_join hJ _ ⟨K127, (some ⟨b5, 0, none⟩), 1, [(b5, Cl [(.string (⟨#[73]⟩ : ByteArray))] 9)], (some ⟨b27, 0, none⟩), 4, [(b27, Cl [(.string (⟨#[120]⟩ : ByteArray)), (.int .i64 x7.Kind), (.string x7.Class), (.bool false), (.string (⟨#[110, 101, 120, 116]⟩ : ByteArray)), (.int .i64 x12.Kind), (.string x12.Class), (.bool false), (.string (⟨#[119]⟩ : ByteArray)), (.int .i64 x17.Kind), (.string x17.Class), (.bool false), (.string (⟨#[117, 110, 117, 115, 101, 100]⟩ : ByteArray)), (.int .i64 x22.Kind), (.string x22.Class), (.bool false)] 97)], a134, c135, C136, rfl, hle, h138, h139, h137, (hS.sel [5, 2, 4, 3, 1, 6] rfl)⟩ ⟨rfl, rfl, rfl, trivial⟩
    replace hf := bif_f hc hf
    refine s_skip (qn ?_)
    have h140 : OwnS 9 K54 (.slice (some ⟨b5, 0, none⟩) 1 1) ([(⟨#[73]⟩ : ByteArray)] : List ByteArray) [(b5, Cl [(.string (⟨#[73]⟩ : ByteArray))] 9)] := OwnS.lit ⟨[(.string (⟨#[73]⟩ : ByteArray))], _, rfl, rfl, rfl⟩ rfl rfl
    have h141 : OwnS 97 K54 (.slice (some ⟨b27, 0, none⟩) 4 4) [(api_Field.mk (⟨#[120]⟩ : ByteArray) (api_Type.mk x7.Kind x7.Class) false), (api_Field.mk (⟨#[110, 101, 120, 116]⟩ : ByteArray) (api_Type.mk x12.Kind x12.Class) false), (api_Field.mk (⟨#[119]⟩ : ByteArray) (api_Type.mk x17.Kind x17.Class) false), (api_Field.mk (⟨#[117, 110, 117, 115, 101, 100]⟩ : ByteArray) (api_Type.mk x22.Kind x22.Class) false)] [(b27, Cl [(.string (⟨#[120]⟩ : ByteArray)), (.int .i64 x7.Kind), (.string x7.Class), (.bool false), (.string (⟨#[110, 101, 120, 116]⟩ : ByteArray)), (.int .i64 x12.Kind), (.string x12.Class), (.bool false), (.string (⟨#[119]⟩ : ByteArray)), (.int .i64 x17.Kind), (.string x17.Class), (.bool false), (.string (⟨#[117, 110, 117, 115, 101, 100]⟩ : ByteArray)), (.int .i64 x22.Kind), (.string x22.Class), (.bool false)] 97)] := OwnS.lit ⟨[(.string (⟨#[120]⟩ : ByteArray)), (.int .i64 x7.Kind), (.string x7.Class), (.bool false)], _, rfl, rfl, ⟨[(.string (⟨#[110, 101, 120, 116]⟩ : ByteArray)), (.int .i64 x12.Kind), (.string x12.Class), (.bool false)], _, rfl, rfl, ⟨[(.string (⟨#[119]⟩ : ByteArray)), (.int .i64 x17.Kind), (.string x17.Class), (.bool false)], _, rfl, rfl, ⟨[(.string (⟨#[117, 110, 117, 115, 101, 100]⟩ : ByteArray)), (.int .i64 x22.Kind), (.string x22.Class), (.bool false)], _, rfl, rfl, rfl⟩⟩⟩⟩ rfl rfl
    have h142 : OwnS 67 K54 (.slice (some ⟨b66, 0, none⟩) 1 1) [x52] [(b66, Cl (vv67 x52 a57 c58 a60 c61 a63 c64) 67)] := OwnS.lit ⟨(vv67 x52 a57 c58 a60 c61 a63 c64), _, rfl, ⟨a57, c58, a60, c61, a63, c64, rfl, h59, h62, h65⟩, rfl⟩ rfl rfl
    have hq := Option.some.inj hf
    subst hq
    replace hle := hle.trans hkk0
    refine s_join hJ _ ⟨K54, (some ⟨b5, 0, none⟩), 1, [(b5, Cl [(.string (⟨#[73]⟩ : ByteArray))] 9)], (some ⟨b27, 0, none⟩), 4, [(b27, Cl [(.string (⟨#[120]⟩ : ByteArray)), (.int .i64 x7.Kind), (.string x7.Class), (.bool false), (.string (⟨#[110, 101, 120, 116]⟩ : ByteArray)), (.int .i64 x12.Kind), (.string x12.Class), (.bool false), (.string (⟨#[119]⟩ : ByteArray)), (.int .i64 x17.Kind), (.string x17.Class), (.bool false), (.string (⟨#[117, 110, 117, 115, 101, 100]⟩ : ByteArray)), (.int .i64 x22.Kind), (.string x22.Class), (.bool false)] 97)], (some ⟨b66, 0, none⟩), 1, [(b66, Cl (vv67 x52 a57 c58 a60 c61 a63 c64) 67)], rfl, hle, h140, h141, h142, (hS.sel [4, 1, 3, 2, 0, 5] rfl)⟩ ⟨rfl, rfl, rfl, trivial⟩
  rintro _ w ⟨K94, a96, c97, C98, a101, c102, C103, a106, c107, C108, rfl, hle, h95, h100, h105, hS⟩
  obtain ⟨s201, hst202, hf⟩ := bs hf
  refine s_cut (fun τ w => ∃ (K185 : KM) (C189 : Chunks) (C194 : Chunks) (a197 : Option Addr) (c198 : Nat) (C199 : Chunks), τ = [(1, (.pointer (some ⟨b3, 0, none⟩))), (3, (.slice none 0 0)), (4, (.pointer (some ⟨b29, 0, none⟩)))] ∧ KM.le K K185 ∧ OwnS 9 K185 (.slice a96 ([(⟨#[73]⟩ : ByteArray)].length) c97) [(⟨#[73]⟩ : ByteArray)] C189 ∧ OwnS 97 K185 (.slice a101 ([(api_Field.mk (⟨#[120]⟩ : ByteArray) (api_Type.mk x7.Kind x7.Class) false), (api_Field.mk (⟨#[110, 101, 120, 116]⟩ : ByteArray) (api_Type.mk x12.Kind x12.Class) false), (api_Field.mk (⟨#[119]⟩ : ByteArray) (api_Type.mk x17.Kind x17.Class) false), (api_Field.mk (⟨#[117, 110, 117, 115, 101, 100]⟩ : ByteArray) (api_Type.mk x22.Kind x22.Class) false)].length) c102) [(api_Field.mk (⟨#[120]⟩ : ByteArray) (api_Type.mk x7.Kind x7.Class) false), (api_Field.mk (⟨#[110, 101, 120, 116]⟩ : ByteArray) (api_Type.mk x12.Kind x12.Class) false), (api_Field.mk (⟨#[119]⟩ : ByteArray) (api_Type.mk x17.Kind x17.Class) false), (api_Field.mk (⟨#[117, 110, 117, 115, 101, 100]⟩ : ByteArray) (api_Type.mk x22.Kind x22.Class) false)] C194 ∧ OwnS 67 K185 (.slice a197 s201.length c198) s201 C199 ∧ Sat w K185 (flat [[(b3, Cl (vv68 p1) 68)], [(b29, Cl [(.string (⟨#[66, 97, 115, 101]⟩ : ByteArray)), (.string (⟨#[79, 98, 106, 101, 99, 116]⟩ : ByteArray)), (.slice a96 ([(⟨#[73]⟩ : ByteArray)].length) c97), (.int .i64 2), (.slice a101 ([(api_Field.mk (⟨#[120]⟩ : ByteArray) (api_Type.mk x7.Kind x7.Class) false), (api_Field.mk (⟨#[110, 101, 120, 116]⟩ : ByteArray) (api_Type.mk x12.Kind x12.Class) false), (api_Field.mk (⟨#[119]⟩ : ByteArray) (api_Type.mk x17.Kind x17.Class) false), (api_Field.mk (⟨#[117, 110, 117, 115, 101, 100]⟩ : ByteArray) (api_Type.mk x22.Kind x22.Class) false)].length) c102), (.slice a197 s201.length c198)] 81)], C189, C194, C199, L])) (fun J hJ => ?_) ?_
  · replace hf := hst202
    refine s_seq (s_reg ?_)
    refine s_v rfl rfl rfl ?_
    refine s_ld 0 hS rfl rfl rfl rfl rfl ?_
    iterate 2 refine s_v rfl rfl rfl ?_
    refine s_nil (qn ?_)
    refine s_if rfl (fun hc => ?_) (fun hc => ?_)
    · replace hf := bif_t hc hf
      refine d_start [] [(6, [1])] hS ?_
      intro w hS
      refine d_v 0 (fun _ _ _ _ _ h => h) [] hS rfl rfl rfl (by kernel_rfl) rfl rfl ?_
      refine d_ldh 1 0 (fun _ _ _ _ _ h => h) [] hS rfl rfl rfl (by kernel_rfl) rfl rfl (by kernel_rfl) rfl rfl ?_
      refine d_op 2 rfl (by kernel_rfl) (by kernel_rfl) (fun X hX => ?_)
      have hlq := KM.le.refl K94
      obtain ⟨x224, hx225, hf⟩ := bs hf
      refine s_call isf47 hS.nilG (bonsaiseat_clinit_spec hx225) rfl rfl rfl ?_
      rintro _ K226 C228 w hk227 ⟨a229, c230, a232, c233, a235, c236, rfl, h231, h234, h237⟩ hS
      replace hS := hS.drop1
      replace hlq := hlq.trans hk227
      refine d_go [] [] [(6, [1])] [some 0] hX hS hlq rfl rfl ⟨rfl, trivial⟩ ?_
      refine d_op 3 rfl (by kernel_rfl) (by kernel_rfl) (fun X hX => ?_)
      have hlq := KM.le.refl K226
      refine s_bwc (cs := (vv67 x224 a229 c230 a232 c233 a235 c236)) hS rfl rfl rfl rfl rfl rfl rfl rfl rfl rfl ?_
      intro b238 w hS
      refine d_go [] [] [(6, [2])] [some 0] hX hS hlq rfl rfl ⟨rfl, trivial⟩ ?_
      refine d_op 4 rfl (by kernel_rfl) (by kernel_rfl) (fun X hX => ?_)
      have hlq := KM.le.refl K226
      obtain ⟨hm240, hf⟩ := gs hf
      replace h105 := h105.mono hk227
      refine s_appv (e := 67) (ys := ([x224] : List api_Method)) 5 0 hS rfl h105 rfl ⟨(vv67 x224 a229 c230 a232 c233 a235 c236), _, rfl, ⟨a229, c230, a232, c233, a235, c236, rfl, h231, h234, h237⟩, rfl⟩ rfl rfl rfl rfl rfl rfl rfl rfl (roomy_le hm240) rfl rfl rfl ?_
      intro a241 c242 w C243 h244 hS
      replace hS : Sat w _ (flat [_, _, _, _, _, _, _]) := hS
      refine d_go [] [] [(6, [2])] [some 0] hX hS hlq rfl rfl ⟨rfl, trivial⟩ ?_
      refine d_v 5 (fun _ _ _ _ _ h => h) [] hS rfl rfl rfl (by kernel_rfl) rfl rfl ?_
      refine d_op 6 rfl (by kernel_rfl) (by kernel_rfl) (fun X hX => ?_)
      have hlq := KM.le.refl K226
      refine s_st (cs' := [(.string (⟨#[66, 97, 115, 101]⟩ : ByteArray)), (.string (⟨#[79, 98, 106, 101, 99, 116]⟩ : ByteArray)), (.slice a96 ([(⟨#[73]⟩ : ByteArray)].length) c97), (.int .i64 2), (.slice a101 ([(api_Field.mk (⟨#[120]⟩ : ByteArray) (api_Type.mk x7.Kind x7.Class) false), (api_Field.mk (⟨#[110, 101, 120, 116]⟩ : ByteArray) (api_Type.mk x12.Kind x12.Class) false), (api_Field.mk (⟨#[119]⟩ : ByteArray) (api_Type.mk x17.Kind x17.Class) false), (api_Field.mk (⟨#[117, 110, 117, 115, 101, 100]⟩ : ByteArray) (api_Type.mk x22.Kind x22.Class) false)].length) c102), (.slice a241 ((s110 ++ ([x224] : List api_Method)).length) c242)]) 2 hS rfl rfl rfl rfl rfl ?_
      intro w hS
      replace hS : Sat w _ (flat [_, _, _, _, _, _, _]) := hS
      refine d_go [] [2] [] [none] hX hS hlq rfl rfl ⟨rfl, trivial⟩ ?_
      refine d_end (by kernel_rfl) ?_
      refine qn ?_
      have hq := Option.some.inj hf
      subst hq
      replace h95 := h95.mono hk227
      replace h100 := h100.mono hk227
      replace hle := hle.trans hk227
      refine s_join hJ _ ⟨K226, C98, C103, a241, c242, C243, rfl, hle, h95, h100, h244, (hS.sel [1, 2, 3, 4, 5, 6] rfl)⟩ ⟨rfl, rfl, rfl, trivial⟩
    replace hf := bif_f hc hf
    refine s_skip (qn ?_)
    have hq := Option.some.inj hf
    subst hq
    refine s_join hJ _ ⟨K94, C98, C103, a106, c107, C108, rfl, hle, h95, h100, h105, hS⟩ ⟨rfl, rfl, rfl, trivial⟩
  rintro _ w ⟨K185, C189, C194, a197, c198, C199, rfl, hle, h186, h191, h196, hS⟩
  refine s_seq ?_
  obtain ⟨x276, hx277, hf⟩ := bs hf
  obtain ⟨x316, hx317, hf⟩ := bs hf
  refine d_make (G := [[(b3, Cl (vv68 p1) 68)], [(b29, Cl [(.string (⟨#[66, 97, 115, 101]⟩ : ByteArray)), (.string (⟨#[79, 98, 106, 101, 99, 116]⟩ : ByteArray)), (.slice a96 ([(⟨#[73]⟩ : ByteArray)].length) c97), (.int .i64 2), (.slice a101 ([(api_Field.mk (⟨#[120]⟩ : ByteArray) (api_Type.mk x7.Kind x7.Class) false), (api_Field.mk (⟨#[110, 101, 120, 116]⟩ : ByteArray) (api_Type.mk x12.Kind x12.Class) false), (api_Field.mk (⟨#[119]⟩ : ByteArray) (api_Type.mk x17.Kind x17.Class) false), (api_Field.mk (⟨#[117, 110, 117, 115, 101, 100]⟩ : ByteArray) (api_Type.mk x22.Kind x22.Class) false)].length) c102), (.slice a197 s201.length c198)] 81)], C189, C194, C199, L]) [⟨8, some 5, [], [], fun K D v C => ∃ (b370 : Nat), v = (.pointer (some ⟨b370, 0, none⟩)) ∧ C = [(b370, Cl [(.string ByteArray.empty), (.string ByteArray.empty), (.slice none 0 0), (.int .i64 0), (.slice none 0 0), (.slice none 0 0)] 81)]⟩, ⟨7, some 57, [], [52, 56], fun K D v C => ∃ (b360 : Nat) (b362 : Nat), v = (.agg #[(.string (⟨#[65]⟩ : ByteArray)), (.string (⟨#[66, 97, 115, 101]⟩ : ByteArray)), (.slice none 0 0), (.int .i64 1), (.slice (some ⟨b360, 0, none⟩) 1 1), (.slice (some ⟨b362, 0, none⟩) 1 1)]) ∧ D 52 = some (.slice (some ⟨b360, 0, none⟩) 1 1) ∧ D 56 = some (.slice (some ⟨b362, 0, none⟩) 1 1) ∧ C = []⟩, ⟨6, some 56, [], [], fun K D v C => ∃ (C349 : Chunks) (b350 : Nat), v = (.slice (some ⟨b350, 0, none⟩) 1 1) ∧ OwnS 67 K (.slice (some ⟨b350, 0, none⟩) 1 1) [x316] C349 ∧ C349 = C⟩, ⟨5, some 55, [], [], fun K D v C => ∃ (a330 : Option Addr) (c331 : Nat) (a333 : Option Addr) (c334 : Nat) (a336 : Option Addr) (c337 : Nat), v = (.agg (vv67 x316 a330 c331 a333 c334 a336 c337).toArray) ∧ SlK 63 K a330 c331 x316.Params ∧ SlK 77 K a333 c334 x316.Code ∧ SlK 92 K a336 c337 x316.Handlers ∧ C = []⟩, ⟨4, some 54, [], [], fun K D v C => v = (.int .u8 p1.e1) ∧ C = []⟩, ⟨3, some 53, [], [], fun K D v C => v = (.pointer (some ⟨b3, 1, none⟩)) ∧ C = []⟩, ⟨2, some 52, [], [], fun K D v C => ∃ (C297 : Chunks) (b298 : Nat), v = (.slice (some ⟨b298, 0, none⟩) 1 1) ∧ OwnS 97 K (.slice (some ⟨b298, 0, none⟩) 1 1) [(api_Field.mk (⟨#[99, 111, 117, 110, 116]⟩ : ByteArray) (api_Type.mk x276.Kind x276.Class) true)] C297 ∧ C297 = C⟩, ⟨1, some 51, [], [], fun K D v C => v = (.agg #[(.string (⟨#[99, 111, 117, 110, 116]⟩ : ByteArray)), (.int .i64 x276.Kind), (.string x276.Class), (.bool true)]) ∧ C = []⟩, ⟨0, some 50, [], [], fun K D v C => v = (.agg (vv63 x276).toArray) ∧ C = []⟩] #[true, true, true, true, true, true, true, true, true, false] 0 1 ⟨by kernel_rfl, by kernel_rfl, by kernel_rfl, by kernel_rfl, by kernel_rfl, by kernel_rfl, by kernel_rfl⟩ rfl (by kernel_rfl) rfl hS ⟨?_, ?_, ?_, ?_, ?_, ?_, ?_, ?_, ?_, trivial⟩ ?_
  · refine ⟨_, rfl, rfl, rfl, ?_⟩
    intro K364 w Y365 σ hl0 hS hd hs X hX
    replace hS : Sat w K364 (flat [_, _, _, _, _, _, Y365]) := Sat.unnil hS
    have hh367 : within [] σ := trivial
    refine rg_head hh367 ?_
    have hle := KM.le.refl K364
    refine s_al hS rfl rfl rfl ?_
    intro b368 w hS
    replace hS : Sat w K364 (flat ([(b368, Cl [(.string ByteArray.empty), (.string ByteArray.empty), (.slice none 0 0), (.int .i64 0), (.slice none 0 0), (.slice none 0 0)] 81)] :: _)) := hS
    refine s_nil ?_
    exact hX _ _ _ _ _ hh367 hle ⟨b368, rfl, rfl⟩ hS
  · refine ⟨_, rfl, rfl, rfl, ?_⟩
    intro K352 w Y353 σ hl0 hS hd hs X hX
    replace hS : Sat w K352 (flat [_, _, _, _, _, _, Y353]) := Sat.unnil hS
    obtain ⟨_, _, _, hk356, hv355, C297, b298, rfl, h299, _⟩ := hd 6 _ rfl (by kernel_rfl)
    obtain ⟨_, _, _, hk358, hv357, C349, b350, rfl, h351, _⟩ := hd 2 _ rfl (by kernel_rfl)
    have hh359 : within [(52, (.slice (some ⟨b298, 0, none⟩) 1 1)), (56, (.slice (some ⟨b350, 0, none⟩) 1 1))] σ := ⟨hv355, hv357, trivial⟩
    refine rg_head hh359 ?_
    have hle := KM.le.refl K352
    refine s_v (v := (.agg #[(.string (⟨#[65]⟩ : ByteArray)), (.string (⟨#[66, 97, 115, 101]⟩ : ByteArray)), (.slice none 0 0), (.int .i64 1), (.slice (some ⟨b298, 0, none⟩) 1 1), (.slice (some ⟨b350, 0, none⟩) 1 1)])) rfl rfl rfl ?_
    refine s_nil ?_
    exact hX _ _ _ _ _ hh359 hle ⟨b298, b350, rfl, hv355, hv357, rfl⟩ hS.nilG
  · refine ⟨_, rfl, rfl, rfl, ?_⟩
    intro K339 w Y340 σ hl0 hS hd hs X hX
    replace hS : Sat w K339 (flat [_, _, _, _, _, _, Y340]) := Sat.unnil hS
    obtain ⟨_, _, _, hk343, hv342, a330, c331, a333, c334, a336, c337, rfl, h332, h335, h338, _⟩ := hd 3 _ rfl (by kernel_rfl)
    have hh344 : within [(55, (.agg (vv67 x316 a330 c331 a333 c334 a336 c337).toArray))] σ := ⟨hv342, trivial⟩
    refine rg_head hh344 ?_
    have hle := KM.le.refl K339
    refine s_bwc (cs := (vv67 x316 a330 c331 a333 c334 a336 c337)) hS rfl rfl rfl rfl rfl rfl rfl rfl rfl rfl ?_
    intro b345 w hS
    replace h332 := h332.mono hk343
    replace h335 := h335.mono hk343
    replace h338 := h338.mono hk343
    have h347 : OwnS 67 K339 (.slice (some ⟨b345, 0, none⟩) 1 1) [x316] [(b345, Cl (vv67 x316 a330 c331 a333 c334 a336 c337) 67)] := OwnS.lit ⟨(vv67 x316 a330 c331 a333 c334 a336 c337), _, rfl, ⟨a330, c331, a333, c334, a336, c337, rfl, h332, h335, h338⟩, rfl⟩ rfl rfl
    refine s_nil ?_
    exact hX _ _ _ _ _ hh344 hle ⟨[(b345, Cl (vv67 x316 a330 c331 a333 c334 a336 c337) 67)], b345, rfl, h347, rfl⟩ hS
  · refine ⟨_, rfl, rfl, rfl, ?_⟩
    intro K310 w Y311 σ hl0 hS hd hs X hX
    replace hS : Sat w K310 (flat [_, _, _, _, _, _, Y311]) := Sat.unnil hS
    obtain ⟨_, _, _, hk314, hv313, rfl, _⟩ := hd 4 _ rfl (by kernel_rfl)
    have hh315 : within [(54, (.int .u8 p1.e1))] σ := ⟨hv313, trivial⟩
    refine rg_head hh315 ?_
    have hle := KM.le.refl K310
    refine s_call isf64 hS.nilG (bonsaiseat_run_spec hx317) rfl rfl rfl ?_
    rintro _ K318 C320 w hk319 ⟨a321, c322, a324, c325, a327, c328, rfl, h323, h326, h329⟩ hS
    replace hS := hS.drop1
    refine s_nil ?_
    replace hle := hle.trans hk319
    exact hX _ _ _ _ _ hh315 hle ⟨a321, c322, a324, c325, a327, c328, rfl, h323, h326, h329, rfl⟩ hS.nilG
  · refine ⟨_, rfl, rfl, rfl, ?_⟩
    intro K304 w Y305 σ hl0 hS hd hs X hX
    replace hS : Sat w K304 (flat [_, _, _, _, _, _, Y305]) := Sat.unnil hS
    obtain ⟨_, _, _, hk308, hv307, rfl, _⟩ := hd 5 _ rfl (by kernel_rfl)
    have hh309 : within [(53, (.pointer (some ⟨b3, 1, none⟩)))] σ := ⟨hv307, trivial⟩
    refine rg_head hh309 ?_
    have hle := KM.le.refl K304
    refine s_ld 0 hS rfl rfl rfl rfl rfl ?_
    refine s_nil ?_
    exact hX _ _ _ _ _ hh309 hle ⟨rfl, rfl⟩ hS.nilG
  · refine ⟨_, rfl, rfl, rfl, ?_⟩
    intro K300 w Y301 σ hl0 hS hd hs X hX
    replace hS : Sat w K300 (flat [_, _, _, _, _, _, Y301]) := Sat.unnil hS
    have hh303 : within [(1, (.pointer (some ⟨b3, 0, none⟩)))] σ := ⟨hs 1 _ rfl rfl, trivial⟩
    refine rg_head hh303 ?_
    have hle := KM.le.refl K300
    refine s_v rfl rfl rfl ?_
    refine s_nil ?_
    exact hX _ _ _ _ _ hh303 hle ⟨rfl, rfl⟩ hS.nilG
  · refine ⟨_, rfl, rfl, rfl, ?_⟩
    intro K287 w Y288 σ hl0 hS hd hs X hX
    replace hS : Sat w K287 (flat [_, _, _, _, _, _, Y288]) := Sat.unnil hS
    obtain ⟨_, _, _, hk291, hv290, rfl, _⟩ := hd 7 _ rfl (by kernel_rfl)
    have hh292 : within [(51, (.agg #[(.string (⟨#[99, 111, 117, 110, 116]⟩ : ByteArray)), (.int .i64 x276.Kind), (.string x276.Class), (.bool true)]))] σ := ⟨hv290, trivial⟩
    refine rg_head hh292 ?_
    have hle := KM.le.refl K287
    refine s_bwc (cs := [(.string (⟨#[99, 111, 117, 110, 116]⟩ : ByteArray)), (.int .i64 x276.Kind), (.string x276.Class), (.bool true)]) hS rfl rfl rfl rfl rfl rfl rfl rfl rfl rfl ?_
    intro b293 w hS
    have h295 : OwnS 97 K287 (.slice (some ⟨b293, 0, none⟩) 1 1) [(api_Field.mk (⟨#[99, 111, 117, 110, 116]⟩ : ByteArray) (api_Type.mk x276.Kind x276.Class) true)] [(b293, Cl [(.string (⟨#[99, 111, 117, 110, 116]⟩ : ByteArray)), (.int .i64 x276.Kind), (.string x276.Class), (.bool true)] 97)] := OwnS.lit ⟨[(.string (⟨#[99, 111, 117, 110, 116]⟩ : ByteArray)), (.int .i64 x276.Kind), (.string x276.Class), (.bool true)], _, rfl, rfl, rfl⟩ rfl rfl
    refine s_nil ?_
    exact hX _ _ _ _ _ hh292 hle ⟨[(b293, Cl [(.string (⟨#[99, 111, 117, 110, 116]⟩ : ByteArray)), (.int .i64 x276.Kind), (.string x276.Class), (.bool true)] 97)], b293, rfl, h295, rfl⟩ hS
  · refine ⟨_, rfl, rfl, rfl, ?_⟩
    intro K281 w Y282 σ hl0 hS hd hs X hX
    replace hS : Sat w K281 (flat [_, _, _, _, _, _, Y282]) := Sat.unnil hS
    obtain ⟨_, _, _, hk285, hv284, rfl, _⟩ := hd 8 _ rfl (by kernel_rfl)
    have hh286 : within [(50, (.agg (vv63 x276).toArray))] σ := ⟨hv284, trivial⟩
    refine rg_head hh286 ?_
    have hle := KM.le.refl K281
    refine s_v (v := (.agg #[(.string (⟨#[99, 111, 117, 110, 116]⟩ : ByteArray)), (.int .i64 x276.Kind), (.string x276.Class), (.bool true)])) rfl rfl rfl ?_
    refine s_nil ?_
    exact hX _ _ _ _ _ hh286 hle ⟨rfl, rfl⟩ hS.nilG
  · refine ⟨_, rfl, rfl, rfl, ?_⟩
    intro K272 w Y273 σ hl0 hS hd hs X hX
    replace hS : Sat w K272 (flat [_, _, _, _, _, _, Y273]) := Sat.unnil hS
    have hh275 : within [] σ := trivial
    refine rg_head hh275 ?_
    have hle := KM.le.refl K272
    refine s_call isf46 hS.nilG (bonsaiseat_typ_spec hx277) rfl rfl rfl ?_
    rintro _ K278 C280 w hk279 rfl hS
    replace hS := hS.drop1
    refine s_nil ?_
    replace hle := hle.trans hk279
    exact hX _ _ _ _ _ hh275 hle ⟨rfl, rfl⟩ hS.nilG
  rintro K372 w _ _ hk373 hO hS
  obtain ⟨_, _, _, _, _, rfl, rfl, hk374, ⟨b370, rfl, rfl⟩, hO⟩ := hO
  obtain ⟨_, _, _, _, _, rfl, rfl, hk375, ⟨b360, b362, rfl, hr361, hr363, rfl⟩, hO⟩ := hO
  obtain ⟨_, _, _, _, _, rfl, rfl, hk376, ⟨C349, b350, rfl, h351, rfl⟩, hO⟩ := hO
  obtain ⟨_, _, _, _, _, rfl, rfl, hk377, ⟨a330, c331, a333, c334, a336, c337, rfl, h332, h335, h338, rfl⟩, hO⟩ := hO
  obtain ⟨_, _, _, _, _, rfl, rfl, hk378, ⟨rfl, rfl⟩, hO⟩ := hO
  obtain ⟨_, _, _, _, _, rfl, rfl, hk379, ⟨rfl, rfl⟩, hO⟩ := hO
  obtain ⟨_, _, _, _, _, rfl, rfl, hk380, ⟨C297, b298, rfl, h299, rfl⟩, hO⟩ := hO
  obtain ⟨_, _, _, _, _, rfl, rfl, hk381, ⟨rfl, rfl⟩, hO⟩ := hO
  obtain ⟨_, _, _, _, _, rfl, rfl, hk382, ⟨rfl, rfl⟩, hO⟩ := hO
  obtain ⟨rfl, rfl⟩ := hO
  obtain rfl := lnk_sl (show some _ = some _ from hr361)
  obtain rfl := lnk_sl (show some _ = some _ from hr363)
  replace hS : Sat w K372 (flat [[(b370, Cl [(.string ByteArray.empty), (.string ByteArray.empty), (.slice none 0 0), (.int .i64 0), (.slice none 0 0), (.slice none 0 0)] 81)], C349, C297, [(b3, Cl (vv68 p1) 68)], [(b29, Cl [(.string (⟨#[66, 97, 115, 101]⟩ : ByteArray)), (.string (⟨#[79, 98, 106, 101, 99, 116]⟩ : ByteArray)), (.slice a96 ([(⟨#[73]⟩ : ByteArray)].length) c97), (.int .i64 2), (.slice a101 ([(api_Field.mk (⟨#[120]⟩ : ByteArray) (api_Type.mk x7.Kind x7.Class) false), (api_Field.mk (⟨#[110, 101, 120, 116]⟩ : ByteArray) (api_Type.mk x12.Kind x12.Class) false), (api_Field.mk (⟨#[119]⟩ : ByteArray) (api_Type.mk x17.Kind x17.Class) false), (api_Field.mk (⟨#[117, 110, 117, 115, 101, 100]⟩ : ByteArray) (api_Type.mk x22.Kind x22.Class) false)].length) c102), (.slice a197 s201.length c198)] 81)], C189, C194, C199, L]) := hS.sel [0, 2, 6, 9, 10, 11, 12, 13, 14] rfl
  refine At.weaken [(1, (.pointer (some ⟨b3, 0, none⟩))), (3, (.slice none 0 0)), (4, (.pointer (some ⟨b29, 0, none⟩))), (5, (.pointer (some ⟨b370, 0, none⟩))), (57, (.agg #[(.string (⟨#[65]⟩ : ByteArray)), (.string (⟨#[66, 97, 115, 101]⟩ : ByteArray)), (.slice none 0 0), (.int .i64 1), (.slice (some ⟨b298, 0, none⟩) 1 1), (.slice (some ⟨b350, 0, none⟩) 1 1)]))] ⟨rfl, rfl, rfl, rfl, rfl, trivial⟩ ?_
  refine d_on [] [] hS ?_
  refine d_op 9 rfl (by kernel_rfl) (by kernel_rfl) (fun X hX => ?_)
  have hlq := KM.le.refl K372
  refine s_st (cs' := [(.string (⟨#[65]⟩ : ByteArray)), (.string (⟨#[66, 97, 115, 101]⟩ : ByteArray)), (.slice none 0 0), (.int .i64 1), (.slice (some ⟨b298, 0, none⟩) 1 1), (.slice (some ⟨b350, 0, none⟩) 1 1)]) 0 hS rfl rfl rfl rfl rfl ?_
  intro w hS
  replace hS : Sat w _ (flat [_, _, _, _, _, _, _, _, _]) := hS
  refine d_go [] [] [] [] hX hS hlq rfl rfl trivial ?_
  refine d_end (by kernel_rfl) ?_
  refine qn ?_
  obtain ⟨s451, hst452, hf⟩ := bs hf
  refine s_cut (fun τ w => ∃ (K425 : KM) (C429 : Chunks) (C434 : Chunks) (C439 : Chunks) (C444 : Chunks) (a447 : Option Addr) (c448 : Nat) (C449 : Chunks), τ = [(1, (.pointer (some ⟨b3, 0, none⟩))), (3, (.slice none 0 0)), (4, (.pointer (some ⟨b29, 0, none⟩))), (5, (.pointer (some ⟨b370, 0, none⟩)))] ∧ KM.le K K425 ∧ OwnS 9 K425 (.slice a96 ([(⟨#[73]⟩ : ByteArray)].length) c97) [(⟨#[73]⟩ : ByteArray)] C429 ∧ OwnS 97 K425 (.slice a101 ([(api_Field.mk (⟨#[120]⟩ : ByteArray) (api_Type.mk x7.Kind x7.Class) false), (api_Field.mk (⟨#[110, 101, 120, 116]⟩ : ByteArray) (api_Type.mk x12.Kind x12.Class) false), (api_Field.mk (⟨#[119]⟩ : ByteArray) (api_Type.mk x17.Kind x17.Class) false), (api_Field.mk (⟨#[117, 110, 117, 115, 101, 100]⟩ : ByteArray) (api_Type.mk x22.Kind x22.Class) false)].length) c102) [(api_Field.mk (⟨#[120]⟩ : ByteArray) (api_Type.mk x7.Kind x7.Class) false), (api_Field.mk (⟨#[110, 101, 120, 116]⟩ : ByteArray) (api_Type.mk x12.Kind x12.Class) false), (api_Field.mk (⟨#[119]⟩ : ByteArray) (api_Type.mk x17.Kind x17.Class) false), (api_Field.mk (⟨#[117, 110, 117, 115, 101, 100]⟩ : ByteArray) (api_Type.mk x22.Kind x22.Class) false)] C434 ∧ OwnS 67 K425 (.slice a197 s201.length c198) s201 C439 ∧ OwnS 97 K425 (.slice (some ⟨b298, 0, none⟩) ([(api_Field.mk (⟨#[99, 111, 117, 110, 116]⟩ : ByteArray) (api_Type.mk x276.Kind x276.Class) true)].length) 1) [(api_Field.mk (⟨#[99, 111, 117, 110, 116]⟩ : ByteArray) (api_Type.mk x276.Kind x276.Class) true)] C444 ∧ OwnS 67 K425 (.slice a447 s451.length c448) s451 C449 ∧ Sat w K425 (flat [[(b3, Cl (vv68 p1) 68)], [(b29, Cl [(.string (⟨#[66, 97, 115, 101]⟩ : ByteArray)), (.string (⟨#[79, 98, 106, 101, 99, 116]⟩ : ByteArray)), (.slice a96 ([(⟨#[73]⟩ : ByteArray)].length) c97), (.int .i64 2), (.slice a101 ([(api_Field.mk (⟨#[120]⟩ : ByteArray) (api_Type.mk x7.Kind x7.Class) false), (api_Field.mk (⟨#[110, 101, 120, 116]⟩ : ByteArray) (api_Type.mk x12.Kind x12.Class) false), (api_Field.mk (⟨#[119]⟩ : ByteArray) (api_Type.mk x17.Kind x17.Class) false), (api_Field.mk (⟨#[117, 110, 117, 115, 101, 100]⟩ : ByteArray) (api_Type.mk x22.Kind x22.Class) false)].length) c102), (.slice a197 s201.length c198)] 81)], C429, C434, C439, [(b370, Cl [(.string (⟨#[65]⟩ : ByteArray)), (.string (⟨#[66, 97, 115, 101]⟩ : ByteArray)), (.slice none 0 0), (.int .i64 1), (.slice (some ⟨b298, 0, none⟩) ([(api_Field.mk (⟨#[99, 111, 117, 110, 116]⟩ : ByteArray) (api_Type.mk x276.Kind x276.Class) true)].length) 1), (.slice a447 s451.length c448)] 81)], C444, C449, L])) (fun J hJ => ?_) ?_
  · replace hf := hst452
    refine s_seq (s_reg ?_)
    refine s_v rfl rfl rfl ?_
    refine s_ld 3 hS rfl rfl rfl rfl rfl ?_
    iterate 2 refine s_v rfl rfl rfl ?_
    refine s_nil (qn ?_)
    refine s_if rfl (fun hc => ?_) (fun hc => ?_)
    · replace hf := bif_t hc hf
      refine d_start [] [(6, [0])] hS ?_
      intro w hS
      refine d_v 0 (fun _ _ _ _ _ h => h) [] hS rfl rfl rfl (by kernel_rfl) rfl rfl ?_
      refine d_ldh 1 0 (fun _ _ _ _ _ h => h) [] hS rfl rfl rfl (by kernel_rfl) rfl rfl (by kernel_rfl) rfl rfl ?_
      refine d_op 2 rfl (by kernel_rfl) (by kernel_rfl) (fun X hX => ?_)
      have hlq := KM.le.refl K372
      obtain ⟨x474, hx475, hf⟩ := bs hf
      refine s_call isf47 hS.nilG (bonsaiseat_clinit_spec hx475) rfl rfl rfl ?_
      rintro _ K476 C478 w hk477 ⟨a479, c480, a482, c483, a485, c486, rfl, h481, h484, h487⟩ hS
      replace hS := hS.drop1
      replace hlq := hlq.trans hk477
      refine d_go [] [] [(6, [0])] [some 0] hX hS hlq rfl rfl ⟨rfl, trivial⟩ ?_
      refine d_op 3 rfl (by kernel_rfl) (by kernel_rfl) (fun X hX => ?_)
      have hlq := KM.le.refl K476
      refine s_bwc (cs := (vv67 x474 a479 c480 a482 c483 a485 c486)) hS rfl rfl rfl rfl rfl rfl rfl rfl rfl rfl ?_
      intro b488 w hS
      refine d_go [] [] [(6, [1])] [some 0] hX hS hlq rfl rfl ⟨rfl, trivial⟩ ?_
      refine d_op 4 rfl (by kernel_rfl) (by kernel_rfl) (fun X hX => ?_)
      have hlq := KM.le.refl K476
      obtain ⟨hm490, hf⟩ := gs hf
      replace h351 := h351.mono (hk376.trans hk477)
      refine s_appv (e := 67) (ys := ([x474] : List api_Method)) 2 0 hS rfl h351 rfl ⟨(vv67 x474 a479 c480 a482 c483 a485 c486), _, rfl, ⟨a479, c480, a482, c483, a485, c486, rfl, h481, h484, h487⟩, rfl⟩ rfl rfl rfl rfl rfl rfl rfl rfl (roomy_le hm490) rfl rfl rfl ?_
      intro a491 c492 w C493 h494 hS
      replace hS : Sat w _ (flat [_, _, _, _, _, _, _, _, _, _]) := hS
      refine d_go [] [] [(6, [1])] [some 0] hX hS hlq rfl rfl ⟨rfl, trivial⟩ ?_
      refine d_v 5 (fun _ _ _ _ _ h => h) [] hS rfl rfl rfl (by kernel_rfl) rfl rfl ?_
      refine d_op 6 rfl (by kernel_rfl) (by kernel_rfl) (fun X hX => ?_)
      have hlq := KM.le.refl K476
      refine s_st (cs' := [(.string (⟨#[65]⟩ : ByteArray)), (.string (⟨#[66, 97, 115, 101]⟩ : ByteArray)), (.slice none 0 0), (.int .i64 1), (.slice (some ⟨b298, 0, none⟩) 1 1), (.slice a491 (([x316] ++ ([x474] : List api_Method)).length) c492)]) 1 hS rfl rfl rfl rfl rfl ?_
      intro w hS
      replace hS : Sat w _ (flat [_, _, _, _, _, _, _, _, _, _]) := hS
      refine d_go [] [1] [] [none] hX hS hlq rfl rfl ⟨rfl, trivial⟩ ?_
      refine d_end (by kernel_rfl) ?_
      refine qn ?_
      have hq := Option.some.inj hf
      subst hq
      replace h186 := h186.mono (hk373.trans hk477)
      replace h191 := h191.mono (hk373.trans hk477)
      replace h196 := h196.mono (hk373.trans hk477)
      replace hle := hle.trans (hk373.trans hk477)
      replace h299 := h299.mono (hk380.trans hk477)
      refine s_join hJ _ ⟨K476, C189, C194, C199, C297, a491, c492, C493, rfl, hle, h186, h191, h196, h299, h494, (hS.sel [4, 5, 6, 7, 8, 1, 3, 2, 9] rfl)⟩ ⟨rfl, rfl, rfl, rfl, trivial⟩
    replace hf := bif_f hc hf
    refine s_skip (qn ?_)
    have hq := Option.some.inj hf
    subst hq
    replace h186 := h186.mono hk373
    replace h191 := h191.mono hk373
    replace h196 := h196.mono hk373
    replace hle := hle.trans hk373
    replace h351 := h351.mono hk376
    replace h299 := h299.mono hk380
    refine s_join hJ _ ⟨K372, C189, C194, C199, C297, (some ⟨b350, 0, none⟩), 1, C349, rfl, hle, h186, h191, h196, h299, h351, (hS.sel [3, 4, 5, 6, 7, 0, 2, 1, 8] rfl)⟩ ⟨rfl, rfl, rfl, rfl, trivial⟩
  rintro _ w ⟨K425, C429, C434, C439, C444, a447, c448, C449, rfl, hle, h426, h431, h436, h441, h446, hS⟩
  refine s_seq (s_reg ?_)
  refine s_bwc (cs := [(.int .i64 1), (.int .i64 3)]) hS rfl rfl rfl rfl rfl rfl rfl rfl rfl rfl ?_
  intro b495 w hS
  refine s_v rfl rfl rfl ?_
  refine s_ld 1 hS rfl rfl rfl rfl rfl ?_
  iterate 2 refine s_v rfl rfl rfl ?_
  have h497 : OwnS 3 K425 (.slice (some ⟨b495, 0, none⟩) 2 2) ([1, 3] : List Int) [(b495, Cl [(.int .i64 1), (.int .i64 3)] 3)] := OwnS.lit ⟨[(.int .i64 1)], _, rfl, rfl, ⟨[(.int .i64 3)], _, rfl, rfl, rfl⟩⟩ rfl rfl
  generalize hCg_ : ([(b495, Cl [(.int .i64 1), (.int .i64 3)] 3)] : Chunks) = C498 at hS h497
  clear hCg_
  obtain ⟨x499, hx500, hf⟩ := bs hf
  refine s_ixo 0 hS rfl h497 hx500 rfl rfl rfl rfl rfl rfl rfl ?_
  intro b501 l502 cs505 l503 hcs_ hC506 hun504
  obtain rfl := hcs_
  subst hC506
  have hq507 := KM.le.refl K425
  refine s_ldm 0 0 hS rfl rfl rfl rfl rfl ?_
  refine s_v (v := (.agg #[(.string (⟨#[66]⟩ : ByteArray)), (.string (⟨#[65]⟩ : ByteArray)), (.slice none 0 0), (.int .i64 x499), (.slice none 0 0), (.slice none 0 0)])) rfl rfl rfl ?_
  refine s_al hS rfl rfl rfl ?_
  intro b508 w hS
  replace hS : Sat w K425 (flat ([(b508, Cl [(.string ByteArray.empty), (.string ByteArray.empty), (.slice none 0 0), (.int .i64 0), (.slice none 0 0), (.slice none 0 0)] 81)] :: _)) := hS
  refine s_st (cs' := [(.string (⟨#[66]⟩ : ByteArray)), (.string (⟨#[65]⟩ : ByteArray)), (.slice none 0 0), (.int .i64 x499), (.slice none 0 0), (.slice none 0 0)]) 0 hS rfl rfl rfl rfl rfl ?_
  intro w hS
  replace hS : Sat w _ (flat [_, _, _, _, _, _, _, _, _, _, _]) := hS
  refine s_nil (qn ?_)
  replace hS : Sat w K425 (flat [_, _, _, _, _, _, _, _, _, _]) := (hS.sel [0, 2, 3, 4, 5, 6, 7, 8, 9, 10] rfl)
  obtain ⟨s585, hst586, hf⟩ := bs hf
  refine s_cut (fun τ w => ∃ (K554 : KM) (C558 : Chunks) (C563 : Chunks) (C568 : Chunks) (C573 : Chunks) (C578 : Chunks) (a581 : Option Addr) (c582 : Nat) (C583 : Chunks), τ = [(1, (.pointer (some ⟨b3, 0, none⟩))), (3, (.slice none 0 0)), (4, (.pointer (some ⟨b29, 0, none⟩))), (5, (.pointer (some ⟨b370, 0, none⟩))), (6, (.pointer (some ⟨b508, 0, none⟩)))] ∧ KM.le K K554 ∧ OwnS 9 K554 (.slice a96 ([(⟨#[73]⟩ : ByteArray)].length) c97) [(⟨#[73]⟩ : ByteArray)] C558 ∧ OwnS 97 K554 (.slice a101 ([(api_Field.mk (⟨#[120]⟩ : ByteArray) (api_Type.mk x7.Kind x7.Class) false), (api_Field.mk (⟨#[110, 101, 120, 116]⟩ : ByteArray) (api_Type.mk x12.Kind x12.Class) false), (api_Field.mk (⟨#[119]⟩ : ByteArray) (api_Type.mk x17.Kind x17.Class) false), (api_Field.mk (⟨#[117, 110, 117, 115, 101, 100]⟩ : ByteArray) (api_Type.mk x22.Kind x22.Class) false)].length) c102) [(api_Field.mk (⟨#[120]⟩ : ByteArray) (api_Type.mk x7.Kind x7.Class) false), (api_Field.mk (⟨#[110, 101, 120, 116]⟩ : ByteArray) (api_Type.mk x12.Kind x12.Class) false), (api_Field.mk (⟨#[119]⟩ : ByteArray) (api_Type.mk x17.Kind x17.Class) false), (api_Field.mk (⟨#[117, 110, 117, 115, 101, 100]⟩ : ByteArray) (api_Type.mk x22.Kind x22.Class) false)] C563 ∧ OwnS 67 K554 (.slice a197 s201.length c198) s201 C568 ∧ OwnS 97 K554 (.slice (some ⟨b298, 0, none⟩) ([(api_Field.mk (⟨#[99, 111, 117, 110, 116]⟩ : ByteArray) (api_Type.mk x276.Kind x276.Class) true)].length) 1) [(api_Field.mk (⟨#[99, 111, 117, 110, 116]⟩ : ByteArray) (api_Type.mk x276.Kind x276.Class) true)] C573 ∧ OwnS 67 K554 (.slice a447 s451.length c448) s451 C578 ∧ OwnS 67 K554 (.slice a581 s585.length c582) s585 C583 ∧ Sat w K554 (flat [[(b3, Cl (vv68 p1) 68)], [(b29, Cl [(.string (⟨#[66, 97, 115, 101]⟩ : ByteArray)), (.string (⟨#[79, 98, 106, 101, 99, 116]⟩ : ByteArray)), (.slice a96 ([(⟨#[73]⟩ : ByteArray)].length) c97), (.int .i64 2), (.slice a101 ([(api_Field.mk (⟨#[120]⟩ : ByteArray) (api_Type.mk x7.Kind x7.Class) false), (api_Field.mk (⟨#[110, 101, 120, 116]⟩ : ByteArray) (api_Type.mk x12.Kind x12.Class) false), (api_Field.mk (⟨#[119]⟩ : ByteArray) (api_Type.mk x17.Kind x17.Class) false), (api_Field.mk (⟨#[117, 110, 117, 115, 101, 100]⟩ : ByteArray) (api_Type.mk x22.Kind x22.Class) false)].length) c102), (.slice a197 s201.length c198)] 81)], C558, C563, C568, [(b370, Cl [(.string (⟨#[65]⟩ : ByteArray)), (.string (⟨#[66, 97, 115, 101]⟩ : ByteArray)), (.slice none 0 0), (.int .i64 1), (.slice (some ⟨b298, 0, none⟩) ([(api_Field.mk (⟨#[99, 111, 117, 110, 116]⟩ : ByteArray) (api_Type.mk x276.Kind x276.Class) true)].length) 1), (.slice a447 s451.length c448)] 81)], C573, C578, [(b508, Cl [(.string (⟨#[66]⟩ : ByteArray)), (.string (⟨#[65]⟩ : ByteArray)), (.slice none 0 0), (.int .i64 x499), (.slice none 0 0), (.slice a581 s585.length c582)] 81)], C583, L])) (fun J hJ => ?_) ?_
  · replace hf := hst586
    refine s_seq (s_reg ?_)
    refine s_v rfl rfl rfl ?_
    refine s_ld 1 hS rfl rfl rfl rfl rfl ?_
    iterate 2 refine s_v rfl rfl rfl ?_
    refine s_nil (qn ?_)
    refine s_if rfl (fun hc => ?_) (fun hc => ?_)
    · replace hf := bif_t hc hf
      refine d_start [1] [(8, [0])] hS ?_
      intro w hS
      refine d_v 0 (fun _ _ _ _ _ h => h) [1] hS rfl rfl rfl (by kernel_rfl) rfl rfl ?_
      refine d_ldh 1 0 (fun _ _ _ _ _ h => h) [1] hS rfl rfl rfl (by kernel_rfl) rfl rfl (by kernel_rfl) rfl rfl ?_
      refine d_v 2 (fun _ _ _ _ _ h => h) [1] hS rfl rfl rfl (by kernel_rfl) rfl rfl ?_
      refine d_ld 3 0 (fun _ _ _ _ _ h => h) [1] hS rfl rfl rfl rfl rfl (by kernel_rfl) rfl rfl ?_
      refine d_op 4 rfl (by kernel_rfl) (by kernel_rfl) (fun X hX => ?_)
      have hlq := KM.le.refl K425
      obtain ⟨x609, hx610, hf⟩ := bs hf
      refine s_call isf64 hS.nilG (bonsaiseat_run_spec hx610) rfl rfl rfl ?_
      rintro _ K611 C613 w hk612 ⟨a614, c615, a617, c618, a620, c621, rfl, h616, h619, h622⟩ hS
      replace hS := hS.drop1
      replace hlq := hlq.trans hk612
      refine d_go [1] [1] [(8, [0])] [some 0] hX hS hlq rfl rfl ⟨rfl, trivial⟩ ?_
      refine d_op 5 rfl (by kernel_rfl) (by kernel_rfl) (fun X hX => ?_)
      have hlq := KM.le.refl K611
      refine s_bwc (cs := (vv67 x609 a614 c615 a617 c618 a620 c621)) hS rfl rfl rfl rfl rfl rfl rfl rfl rfl rfl ?_
      intro b623 w hS
      refine d_go [2] [2] [(8, [1])] [some 0] hX hS hlq rfl rfl ⟨rfl, trivial⟩ ?_
      refine d_op 6 rfl (by kernel_rfl) (by kernel_rfl) (fun X hX => ?_)
      have hlq := KM.le.refl K611
      replace hS := hS.nilG
      obtain ⟨hm626, hf⟩ := gs hf
      refine s_appv (e := 67) (ys := ([x609] : List api_Method)) 0 1 hS rfl OwnS.nil rfl ⟨(vv67 x609 a614 c615 a617 c618 a620 c621), _, rfl, ⟨a614, c615, a617, c618, a620, c621, rfl, h616, h619, h622⟩, rfl⟩ rfl rfl rfl rfl rfl rfl rfl rfl (roomy_le hm626) rfl rfl rfl ?_
      intro a627 c628 w C629 h630 hS
      replace hS : Sat w _ (flat [_, _, _, _, _, _, _, _, _, _, _, _]) := hS
      refine d_go [3] [3] [(8, [2])] [some 0] hX hS hlq rfl rfl ⟨rfl, trivial⟩ ?_
      refine d_v 7 (fun _ _ _ _ _ h => h) [3] hS rfl rfl rfl (by kernel_rfl) rfl rfl ?_
      refine d_op 8 rfl (by kernel_rfl) (by kernel_rfl) (fun X hX => ?_)
      have hlq := KM.le.refl K611
      refine s_st (cs' := [(.string (⟨#[66]⟩ : ByteArray)), (.string (⟨#[65]⟩ : ByteArray)), (.slice none 0 0), (.int .i64 x499), (.slice none 0 0), (.slice a627 ((([] : List api_Method) ++ ([x609] : List api_Method)).length) c628)]) 2 hS rfl rfl rfl rfl rfl ?_
      intro w hS
      replace hS : Sat w _ (flat [_, _, _, _, _, _, _, _, _, _, _, _]) := hS
      refine d_go [3] [2, 3] [] [none] hX hS hlq rfl rfl ⟨rfl, trivial⟩ ?_
      refine d_end (by kernel_rfl) ?_
      refine qn ?_
      have hq := Option.some.inj hf
      subst hq
      replace h426 := h426.mono hk612
      replace h431 := h431.mono hk612
      replace h436 := h436.mono hk612
      replace h441 := h441.mono hk612
      replace h446 := h446.mono hk612
      replace hle := hle.trans hk612
      refine s_join hJ _ ⟨K611, C429, C434, C439, C444, C449, a627, c628, C629, rfl, hle, h426, h431, h436, h441, h446, h630, (hS.sel [3, 4, 5, 6, 7, 8, 9, 10, 2, 0, 11] rfl)⟩ ⟨rfl, rfl, rfl, rfl, rfl, trivial⟩
    replace hf := bif_f hc hf
    refine s_skip (qn ?_)
    replace hS := hS.nilG
    have hq := Option.some.inj hf
    subst hq
    refine s_join hJ _ ⟨K425, C429, C434, C439, C444, C449, none, 0, [], rfl, hle, h426, h431, h436, h441, h446, OwnS.nil, (hS.sel [2, 3, 4, 5, 6, 7, 8, 9, 1, 0, 10] rfl)⟩ ⟨rfl, rfl, rfl, rfl, rfl, trivial⟩
  rintro _ w ⟨K554, C558, C563, C568, C573, C578, a581, c582, C583, rfl, hle, h555, h560, h565, h570, h575, h580, hS⟩
  obtain ⟨s777, hst778, hf⟩ := bs hf
  refine s_cut (fun τ w => ∃ (K746 : KM) (C750 : Chunks) (C755 : Chunks) (C760 : Chunks) (C765 : Chunks) (C770 : Chunks) (a773 : Option Addr) (c774 : Nat) (C775 : Chunks), τ = [(1, (.pointer (some ⟨b3, 0, none⟩))), (3, (.slice none 0 0)), (4, (.pointer (some ⟨b29, 0, none⟩))), (5, (.pointer (some ⟨b370, 0, none⟩))), (6, (.pointer (some ⟨b508, 0, none⟩)))] ∧ KM.le K K746 ∧ OwnS 9 K746 (.slice a96 ([(⟨#[73]⟩ : ByteArray)].length) c97) [(⟨#[73]⟩ : ByteArray)] C750 ∧ OwnS 97 K746 (.slice a101 ([(api_Field.mk (⟨#[120]⟩ : ByteArray) (api_Type.mk x7.Kind x7.Class) false), (api_Field.mk (⟨#[110, 101, 120, 116]⟩ : ByteArray) (api_Type.mk x12.Kind x12.Class) false), (api_Field.mk (⟨#[119]⟩ : ByteArray) (api_Type.mk x17.Kind x17.Class) false), (api_Field.mk (⟨#[117, 110, 117, 115, 101, 100]⟩ : ByteArray) (api_Type.mk x22.Kind x22.Class) false)].length) c102) [(api_Field.mk (⟨#[120]⟩ : ByteArray) (api_Type.mk x7.Kind x7.Class) false), (api_Field.mk (⟨#[110, 101, 120, 116]⟩ : ByteArray) (api_Type.mk x12.Kind x12.Class) false), (api_Field.mk (⟨#[119]⟩ : ByteArray) (api_Type.mk x17.Kind x17.Class) false), (api_Field.mk (⟨#[117, 110, 117, 115, 101, 100]⟩ : ByteArray) (api_Type.mk x22.Kind x22.Class) false)] C755 ∧ OwnS 67 K746 (.slice a197 s201.length c198) s201 C760 ∧ OwnS 97 K746 (.slice (some ⟨b298, 0, none⟩) ([(api_Field.mk (⟨#[99, 111, 117, 110, 116]⟩ : ByteArray) (api_Type.mk x276.Kind x276.Class) true)].length) 1) [(api_Field.mk (⟨#[99, 111, 117, 110, 116]⟩ : ByteArray) (api_Type.mk x276.Kind x276.Class) true)] C765 ∧ OwnS 67 K746 (.slice a447 s451.length c448) s451 C770 ∧ OwnS 67 K746 (.slice a773 s777.length c774) s777 C775 ∧ Sat w K746 (flat [[(b3, Cl (vv68 p1) 68)], [(b29, Cl [(.string (⟨#[66, 97, 115, 101]⟩ : ByteArray)), (.string (⟨#[79, 98, 106, 101, 99, 116]⟩ : ByteArray)), (.slice a96 ([(⟨#[73]⟩ : ByteArray)].length) c97), (.int .i64 2), (.slice a101 ([(api_Field.mk (⟨#[120]⟩ : ByteArray) (api_Type.mk x7.Kind x7.Class) false), (api_Field.mk (⟨#[110, 101, 120, 116]⟩ : ByteArray) (api_Type.mk x12.Kind x12.Class) false), (api_Field.mk (⟨#[119]⟩ : ByteArray) (api_Type.mk x17.Kind x17.Class) false), (api_Field.mk (⟨#[117, 110, 117, 115, 101, 100]⟩ : ByteArray) (api_Type.mk x22.Kind x22.Class) false)].length) c102), (.slice a197 s201.length c198)] 81)], C750, C755, C760, [(b370, Cl [(.string (⟨#[65]⟩ : ByteArray)), (.string (⟨#[66, 97, 115, 101]⟩ : ByteArray)), (.slice none 0 0), (.int .i64 1), (.slice (some ⟨b298, 0, none⟩) ([(api_Field.mk (⟨#[99, 111, 117, 110, 116]⟩ : ByteArray) (api_Type.mk x276.Kind x276.Class) true)].length) 1), (.slice a447 s451.length c448)] 81)], C765, C770, [(b508, Cl [(.string (⟨#[66]⟩ : ByteArray)), (.string (⟨#[65]⟩ : ByteArray)), (.slice none 0 0), (.int .i64 x499), (.slice none 0 0), (.slice a773 s777.length c774)] 81)], C775, L])) (fun J hJ => ?_) ?_
  · replace hf := hst778
    refine s_seq (s_reg ?_)
    refine s_v rfl rfl rfl ?_
    refine s_ld 0 hS rfl rfl rfl rfl rfl ?_
    iterate 2 refine s_v rfl rfl rfl ?_
    refine s_nil (qn ?_)
    refine s_if rfl (fun hc => ?_) (fun hc => ?_)
    · replace hf := bif_t hc hf
      refine d_start [] [(14, [8])] hS ?_
      intro w hS
      refine d_v 0 (fun _ _ _ _ _ h => h) [] hS rfl rfl rfl (by kernel_rfl) rfl rfl ?_
      refine d_ldh 1 0 (fun _ _ _ _ _ h => h) [] hS rfl rfl rfl (by kernel_rfl) rfl rfl (by kernel_rfl) rfl rfl ?_
      refine d_v 2 (fun _ _ _ _ _ h => h) [] hS rfl rfl rfl (by kernel_rfl) rfl rfl ?_
      refine d_op 3 rfl (by kernel_rfl) (by kernel_rfl) (fun X hX => ?_)
      have hlq := KM.le.refl K554
      obtain ⟨x836, hx837, hf⟩ := bs hf
      refine s_call isf46 hS.nilG (bonsaiseat_typ_spec hx837) rfl rfl rfl ?_
      rintro _ K838 C840 w hk839 rfl hS
      replace hS := hS.drop1
      replace hlq := hlq.trans hk839
      refine d_go [] [] [(14, [8])] [some 0] hX hS hlq rfl rfl ⟨rfl, trivial⟩ ?_
      refine d_op 4 rfl (by kernel_rfl) (by kernel_rfl) (fun X hX => ?_)
      have hlq := KM.le.refl K838
      obtain ⟨x841, hx842, hf⟩ := bs hf
      refine s_call isf51 hS.nilG (bonsaiseat_at_spec hx842) rfl rfl rfl ?_
      rintro _ K843 C845 w hk844 rfl hS
      replace hS := hS.drop1
      replace hlq := hlq.trans hk844
      refine d_go [] [] [(14, [8])] [some 0] hX hS hlq rfl rfl ⟨rfl, trivial⟩ ?_
      refine d_op 5 rfl (by kernel_rfl) (by kernel_rfl) (fun X hX => ?_)
      have hlq := KM.le.refl K843
      obtain ⟨x846, hx847, hf⟩ := bs hf
      refine s_call isf65 hS.nilG (bonsaiseat_call_spec hx847) rfl rfl rfl ?_
      rintro _ K848 C850 w hk849 rfl hS
      replace hS := hS.drop1
      replace hlq := hlq.trans hk849
      refine d_go [] [] [(14, [8])] [some 0] hX hS hlq rfl rfl ⟨rfl, trivial⟩ ?_
      refine d_op 6 rfl (by kernel_rfl) (by kernel_rfl) (fun X hX => ?_)
      have hlq := KM.le.refl K848
      obtain ⟨x851, hx852, hf⟩ := bs hf
      refine s_call isf60 hS.nilG (bonsaiseat_str_spec hx852) rfl rfl rfl ?_
      rintro _ K853 C855 w hk854 rfl hS
      replace hS := hS.drop1
      replace hlq := hlq.trans hk854
      refine d_go [] [] [(14, [8])] [some 0] hX hS hlq rfl rfl ⟨rfl, trivial⟩ ?_
      refine d_op 7 rfl (by kernel_rfl) (by kernel_rfl) (fun X hX => ?_)
      have hlq := KM.le.refl K853
      obtain ⟨x856, hx857, hf⟩ := bs hf
      refine s_call isf50 hS.nilG (bonsaiseat_one_spec hx857) rfl rfl rfl ?_
      rintro _ K858 C860 w hk859 rfl hS
      replace hS := hS.drop1
      replace hlq := hlq.trans hk859
      refine d_go [] [] [(14, [8])] [some 0] hX hS hlq rfl rfl ⟨rfl, trivial⟩ ?_
      refine d_op 8 rfl (by kernel_rfl) (by kernel_rfl) (fun X hX => ?_)
      have hlq := KM.le.refl K858
      obtain ⟨x861, hx862, hf⟩ := bs hf
      refine s_call isf50 hS.nilG (bonsaiseat_one_spec hx862) rfl rfl rfl ?_
      rintro _ K863 C865 w hk864 rfl hS
      replace hS := hS.drop1
      replace hlq := hlq.trans hk864
      refine d_go [] [] [(14, [8])] [some 0] hX hS hlq rfl rfl ⟨rfl, trivial⟩ ?_
      refine d_op 9 rfl (by kernel_rfl) (by kernel_rfl) (fun X hX => ?_)
      have hlq := KM.le.refl K863
      refine s_bwc (cs := ((vv77 x841) ++ ((vv77 x846) ++ ((vv77 x851) ++ ((vv77 x856) ++ ((vv77 x861) ++ [])))))) hS rfl rfl rfl rfl rfl rfl rfl rfl rfl rfl ?_
      intro b866 w hS
      refine d_go [] [] [(14, [9])] [some 0] hX hS hlq rfl rfl ⟨rfl, trivial⟩ ?_
      refine d_op 10 rfl (by kernel_rfl) (by kernel_rfl) (fun X hX => ?_)
      have hlq := KM.le.refl K863
      have h868 : OwnS 77 K863 (.slice (some ⟨b866, 0, none⟩) 5 5) [x841, x846, x851, x856, x861] [(b866, Cl ((vv77 x841) ++ ((vv77 x846) ++ ((vv77 x851) ++ ((vv77 x856) ++ ((vv77 x861) ++ []))))) 77)] := OwnS.lit ⟨(vv77 x841), _, rfl, rfl, ⟨(vv77 x846), _, rfl, rfl, ⟨(vv77 x851), _, rfl, rfl, ⟨(vv77 x856), _, rfl, rfl, ⟨(vv77 x861), _, rfl, rfl, rfl⟩⟩⟩⟩⟩ rfl rfl
      obtain ⟨K869, hk870, h871, hS⟩ := h868.freeze (hS.sel [0, 1, 2, 3, 4, 5, 6, 7, 8, 9, 10, 11] rfl)
      replace hS : Sat w _ (flat [_, _, _, _, _, _, _, _, _, _, _]) := hS
      obtain ⟨x872, hx873, hf⟩ := bs hf
      refine s_call isf48 hS.nilG (bonsaiseat_method_spec hx873 SlK.nil h871) rfl rfl rfl ?_
      rintro _ K874 C876 w hk875 ⟨a877, c878, a880, c881, a883, c884, rfl, h879, h882, h885⟩ hS
      replace hS := hS.drop1
      replace hlq := hlq.trans (hk870.trans hk875)
      refine d_go [] [] [(14, [8])] [some 0] hX hS hlq rfl rfl ⟨rfl, trivial⟩ ?_
      refine d_op 11 rfl (by kernel_rfl) (by kernel_rfl) (fun X hX => ?_)
      have hlq := KM.le.refl K874
      refine s_bwc (cs := (vv67 x872 a877 c878 a880 c881 a883 c884)) hS rfl rfl rfl rfl rfl rfl rfl rfl rfl rfl ?_
      intro b886 w hS
      refine d_go [] [] [(14, [9])] [some 0] hX hS hlq rfl rfl ⟨rfl, trivial⟩ ?_
      refine d_op 12 rfl (by kernel_rfl) (by kernel_rfl) (fun X hX => ?_)
      have hlq := KM.le.refl K874
      obtain ⟨hm888, hf⟩ := gs hf
      have hkk1 := ((((((hk839.trans hk844).trans hk849).trans hk854).trans hk859).trans hk864).trans hk870).trans hk875
      replace h580 := h580.mono hkk1
      refine s_appv (e := 67) (ys := ([x872] : List api_Method)) 10 0 hS rfl h580 rfl ⟨(vv67 x872 a877 c878 a880 c881 a883 c884), _, rfl, ⟨a877, c878, a880, c881, a883, c884, rfl, h879, h882, h885⟩, rfl⟩ rfl rfl rfl rfl rfl rfl rfl rfl (roomy_le hm888) rfl rfl rfl ?_
      intro a889 c890 w C891 h892 hS
      replace hS : Sat w _ (flat [_, _, _, _, _, _, _, _, _, _, _, _]) := hS
      refine d_go [] [] [(14, [9])] [some 0] hX hS hlq rfl rfl ⟨rfl, trivial⟩ ?_
      refine d_v 13 (fun _ _ _ _ _ h => h) [] hS rfl rfl rfl (by kernel_rfl) rfl rfl ?_
      refine d_op 14 rfl (by kernel_rfl) (by kernel_rfl) (fun X hX => ?_)
      have hlq := KM.le.refl K874
      refine s_st (cs' := [(.string (⟨#[66]⟩ : ByteArray)), (.string (⟨#[65]⟩ : ByteArray)), (.slice none 0 0), (.int .i64 x499), (.slice none 0 0), (.slice a889 ((s585 ++ ([x872] : List api_Method)).length) c890)]) 9 hS rfl rfl rfl rfl rfl ?_
      intro w hS
      replace hS : Sat w _ (flat [_, _, _, _, _, _, _, _, _, _, _, _]) := hS
      refine d_go [] [9] [] [none] hX hS hlq rfl rfl ⟨rfl, trivial⟩ ?_
      refine d_end (by kernel_rfl) ?_
      refine qn ?_
      have hq := Option.some.inj hf
      subst hq
      replace h555 := h555.mono hkk1
      replace h560 := h560.mono hkk1
      replace h565 := h565.mono hkk1
      replace h570 := h570.mono hkk1
      replace h575 := h575.mono hkk1
      replace hle := hle.trans hkk1
      refine s_join hJ _ ⟨K874, C558, C563, C568, C573, C578, a889, c890, C891, rfl, hle, h555, h560, h565, h570, h575, h892, (hS.sel [1, 2, 3, 4, 5, 6, 7, 8, 9, 10, 11] rfl)⟩ ⟨rfl, rfl, rfl, rfl, rfl, trivial⟩
    replace hf := bif_f hc hf
    refine s_skip (qn ?_)
    have hq := Option.some.inj hf
    subst hq
    refine s_join hJ _ ⟨K554, C558, C563, C568, C573, C578, a581, c582, C583, rfl, hle, h555, h560, h565, h570, h575, h580, hS⟩ ⟨rfl, rfl, rfl, rfl, rfl, trivial⟩
  rintro _ w ⟨K746, C750, C755, C760, C765, C770, a773, c774, C775, rfl, hle, h747, h752, h757, h762, h767, h772, hS⟩
  refine s_seq (s_reg ?_)
  obtain ⟨x893, hx894, hf⟩ := bs hf
  refine s_call isf46 hS.nilG (bonsaiseat_typ_spec hx894) rfl rfl rfl ?_
  rintro _ K895 C897 w hk896 rfl hS
  replace hS := hS.drop1
  refine s_v (v := (.agg #[(.string (⟨#[109]⟩ : ByteArray)), (.int .i64 x893.Kind), (.string x893.Class), (.bool false)])) rfl rfl rfl ?_
  refine s_bwc (cs := [(.string (⟨#[109]⟩ : ByteArray)), (.int .i64 x893.Kind), (.string x893.Class), (.bool false)]) hS rfl rfl rfl rfl rfl rfl rfl rfl rfl rfl ?_
  intro b898 w hS
  refine s_v (v := (.agg #[(.string (⟨#[77, 105, 100]⟩ : ByteArray)), (.string (⟨#[66, 97, 115, 101]⟩ : ByteArray)), (.slice none 0 0), (.int .i64 2), (.slice (some ⟨b898, 0, none⟩) 1 1), (.slice none 0 0)])) rfl rfl rfl ?_
  refine s_al hS rfl rfl rfl ?_
  intro b900 w hS
  replace hS : Sat w K895 (flat ([(b900, Cl [(.string ByteArray.empty), (.string ByteArray.empty), (.slice none 0 0), (.int .i64 0), (.slice none 0 0), (.slice none 0 0)] 81)] :: _)) := hS
  refine s_st (cs' := [(.string (⟨#[77, 105, 100]⟩ : ByteArray)), (.string (⟨#[66, 97, 115, 101]⟩ : ByteArray)), (.slice none 0 0), (.int .i64 2), (.slice (some ⟨b898, 0, none⟩) 1 1), (.slice none 0 0)]) 0 hS rfl rfl rfl rfl rfl ?_
  intro w hS
  replace hS : Sat w _ (flat [_, _, _, _, _, _, _, _, _, _, _, _, _]) := hS
  refine s_nil (qn ?_)
  obtain ⟨s945, hst946, hf⟩ := bs hf
  refine s_cut (fun τ w => ∃ (K904 : KM) (C908 : Chunks) (C913 : Chunks) (C918 : Chunks) (C923 : Chunks) (C928 : Chunks) (C933 : Chunks) (a936 : Option Addr) (c937 : Nat) (C938 : Chunks) (a941 : Option Addr) (c942 : Nat) (C943 : Chunks), τ = [(1, (.pointer (some ⟨b3, 0, none⟩))), (3, (.slice none 0 0)), (4, (.pointer (some ⟨b29, 0, none⟩))), (5, (.pointer (some ⟨b370, 0, none⟩))), (6, (.pointer (some ⟨b508, 0, none⟩))), (7, (.pointer (some ⟨b900, 0, none⟩)))] ∧ KM.le K K904 ∧ OwnS 9 K904 (.slice a96 ([(⟨#[73]⟩ : ByteArray)].length) c97) [(⟨#[73]⟩ : ByteArray)] C908 ∧ OwnS 97 K904 (.slice a101 ([(api_Field.mk (⟨#[120]⟩ : ByteArray) (api_Type.mk x7.Kind x7.Class) false), (api_Field.mk (⟨#[110, 101, 120, 116]⟩ : ByteArray) (api_Type.mk x12.Kind x12.Class) false), (api_Field.mk (⟨#[119]⟩ : ByteArray) (api_Type.mk x17.Kind x17.Class) false), (api_Field.mk (⟨#[117, 110, 117, 115, 101, 100]⟩ : ByteArray) (api_Type.mk x22.Kind x22.Class) false)].length) c102) [(api_Field.mk (⟨#[120]⟩ : ByteArray) (api_Type.mk x7.Kind x7.Class) false), (api_Field.mk (⟨#[110, 101, 120, 116]⟩ : ByteArray) (api_Type.mk x12.Kind x12.Class) false), (api_Field.mk (⟨#[119]⟩ : ByteArray) (api_Type.mk x17.Kind x17.Class) false), (api_Field.mk (⟨#[117, 110, 117, 115, 101, 100]⟩ : ByteArray) (api_Type.mk x22.Kind x22.Class) false)] C913 ∧ OwnS 67 K904 (.slice a197 s201.length c198) s201 C918 ∧ OwnS 97 K904 (.slice (some ⟨b298, 0, none⟩) ([(api_Field.mk (⟨#[99, 111, 117, 110, 116]⟩ : ByteArray) (api_Type.mk x276.Kind x276.Class) true)].length) 1) [(api_Field.mk (⟨#[99, 111, 117, 110, 116]⟩ : ByteArray) (api_Type.mk x276.Kind x276.Class) true)] C923 ∧ OwnS 67 K904 (.slice a447 s451.length c448) s451 C928 ∧ OwnS 67 K904 (.slice a773 s777.length c774) s777 C933 ∧ OwnS 9 K904 (.slice a936 s945.length c937) s945 C938 ∧ OwnS 97 K904 (.slice a941 ([(api_Field.mk (⟨#[109]⟩ : ByteArray) (api_Type.mk x893.Kind x893.Class) false)].length) c942) [(api_Field.mk (⟨#[109]⟩ : ByteArray) (api_Type.mk x893.Kind x893.Class) false)] C943 ∧ Sat w K904 (flat [[(b3, Cl (vv68 p1) 68)], [(b29, Cl [(.string (⟨#[66, 97, 115, 101]⟩ : ByteArray)), (.string (⟨#[79, 98, 106, 101, 99, 116]⟩ : ByteArray)), (.slice a96 ([(⟨#[73]⟩ : ByteArray)].length) c97), (.int .i64 2), (.slice a101 ([(api_Field.mk (⟨#[120]⟩ : ByteArray) (api_Type.mk x7.Kind x7.Class) false), (api_Field.mk (⟨#[110, 101, 120, 116]⟩ : ByteArray) (api_Type.mk x12.Kind x12.Class) false), (api_Field.mk (⟨#[119]⟩ : ByteArray) (api_Type.mk x17.Kind x17.Class) false), (api_Field.mk (⟨#[117, 110, 117, 115, 101, 100]⟩ : ByteArray) (api_Type.mk x22.Kind x22.Class) false)].length) c102), (.slice a197 s201.length c198)] 81)], C908, C913, C918, [(b370, Cl [(.string (⟨#[65]⟩ : ByteArray)), (.string (⟨#[66, 97, 115, 101]⟩ : ByteArray)), (.slice none 0 0), (.int .i64 1), (.slice (some ⟨b298, 0, none⟩) ([(api_Field.mk (⟨#[99, 111, 117, 110, 116]⟩ : ByteArray) (api_Type.mk x276.Kind x276.Class) true)].length) 1), (.slice a447 s451.length c448)] 81)], C923, C928, [(b508, Cl [(.string (⟨#[66]⟩ : ByteArray)), (.string (⟨#[65]⟩ : ByteArray)), (.slice none 0 0), (.int .i64 x499), (.slice none 0 0), (.slice a773 s777.length c774)] 81)], C933, [(b900, Cl [(.string (⟨#[77, 105, 100]⟩ : ByteArray)), (.string (⟨#[66, 97, 115, 101]⟩ : ByteArray)), (.slice a936 s945.length c937), (.int .i64 2), (.slice a941 ([(api_Field.mk (⟨#[109]⟩ : ByteArray) (api_Type.mk x893.Kind x893.Class) false)].length) c942), (.slice none 0 0)] 81)], C938, C943, L])) (fun J hJ => ?_) ?_
  · replace hf := hst946
    refine s_seq (s_reg ?_)
    refine s_v rfl rfl rfl ?_
    refine s_ld 2 hS rfl rfl rfl rfl rfl ?_
    iterate 2 refine s_v rfl rfl rfl ?_
    refine s_nil (qn ?_)
    refine s_if rfl (fun hc => ?_) (fun hc => ?_)
    · replace hf := bif_t hc hf
      refine s_reg ?_
      refine s_bwc (cs := [(.string (⟨#[74]⟩ : ByteArray))]) hS rfl rfl rfl rfl rfl rfl rfl rfl rfl rfl ?_
      intro b947 w hS
      refine s_v rfl rfl rfl ?_
      refine s_st (cs' := [(.string (⟨#[77, 105, 100]⟩ : ByteArray)), (.string (⟨#[66, 97, 115, 101]⟩ : ByteArray)), (.slice (some ⟨b947, 0, none⟩) 1 1), (.int .i64 2), (.slice (some ⟨b898, 0, none⟩) 1 1), (.slice none 0 0)]) 1 hS rfl rfl rfl rfl rfl ?_
      intro w hS
      replace hS : Sat w _ (flat [_, _, _, _, _, _, _, _, _, _, _, _, _, _]) := hS
      refine s_nil (qn ?_)
      have h949 : OwnS 9 K895 (.slice (some ⟨b947, 0, none⟩) 1 1) ([(⟨#[74]⟩ : ByteArray)] : List ByteArray) [(b947, Cl [(.string (⟨#[74]⟩ : ByteArray))] 9)] := OwnS.lit ⟨[(.string (⟨#[74]⟩ : ByteArray))], _, rfl, rfl, rfl⟩ rfl rfl
      have h950 : OwnS 97 K895 (.slice (some ⟨b898, 0, none⟩) 1 1) [(api_Field.mk (⟨#[109]⟩ : ByteArray) (api_Type.mk x893.Kind x893.Class) false)] [(b898, Cl [(.string (⟨#[109]⟩ : ByteArray)), (.int .i64 x893.Kind), (.string x893.Class), (.bool false)] 97)] := OwnS.lit ⟨[(.string (⟨#[109]⟩ : ByteArray)), (.int .i64 x893.Kind), (.string x893.Class), (.bool false)], _, rfl, rfl, rfl⟩ rfl rfl
      have hq := Option.some.inj hf
      subst hq
      replace h747 := h747.mono hk896
      replace h752 := h752.mono hk896
      replace h757 := h757.mono hk896
      replace h762 := h762.mono hk896
      replace h767 := h767.mono hk896
      replace h772 := h772.mono hk896
      replace hle := hle.trans hk896
      refine s_join hJ _ ⟨K895, C750, C755, C760, C765, C770, C775, (some ⟨b947, 0, none⟩), 1, [(b947, Cl [(.string (⟨#[74]⟩ : ByteArray))] 9)], (some ⟨b898, 0, none⟩), 1, [(b898, Cl [(.string (⟨#[109]⟩ : ByteArray)), (.int .i64 x893.Kind), (.string x893.Class), (.bool false)] 97)], rfl, hle, h747, h752, h757, h762, h767, h772, h949, h950, (hS.sel [3, 4, 5, 6, 7, 8, 9, 10, 11, 12, 1, 0, 2, 13] rfl)⟩ ⟨rfl, rfl, rfl, rfl, rfl, rfl, trivial⟩
    replace hf := bif_f hc hf
    refine s_skip (qn ?_)
    replace hS := hS.nilG
    have h952 : OwnS 97 K895 (.slice (some ⟨b898, 0, none⟩) 1 1) [(api_Field.mk (⟨#[109]⟩ : ByteArray) (api_Type.mk x893.Kind x893.Class) false)] [(b898, Cl [(.string (⟨#[109]⟩ : ByteArray)), (.int .i64 x893.Kind), (.string x893.Class), (.bool false)] 97)] := OwnS.lit ⟨[(.string (⟨#[109]⟩ : ByteArray)), (.int .i64 x893.Kind), (.string x893.Class), (.bool false)], _, rfl, rfl, rfl⟩ rfl rfl
    have hq := Option.some.inj hf
    subst hq
    replace h747 := h747.mono hk896
    replace h752 := h752.mono hk896
    replace h757 := h757.mono hk896
    replace h762 := h762.mono hk896
    replace h767 := h767.mono hk896
    replace h772 := h772.mono hk896
    replace hle := hle.trans hk896
    refine s_join hJ _ ⟨K895, C750, C755, C760, C765, C770, C775, none, 0, [], (some ⟨b898, 0, none⟩), 1, [(b898, Cl [(.string (⟨#[109]⟩ : ByteArray)), (.int .i64 x893.Kind), (.string x893.Class), (.bool false)] 97)], rfl, hle, h747, h752, h757, h762, h767, h772, OwnS.nil, h952, (hS.sel [3, 4, 5, 6, 7, 8, 9, 10, 11, 12, 1, 0, 2, 13] rfl)⟩ ⟨rfl, rfl, rfl, rfl, rfl, rfl, trivial⟩
  rintro _ w ⟨K904, C908, C913, C918, C923, C928, C933, a936, c937, C938, a941, c942, C943, rfl, hle, h905, h910, h915, h920, h925, h930, h935, h940, hS⟩
  refine s_seq (s_reg ?_)
  refine s_v rfl rfl rfl ?_
  refine s_ld 0 hS rfl rfl rfl rfl rfl ?_
  obtain ⟨x953, hx954, hf⟩ := bs hf
  refine s_call isf64 hS.nilG (bonsaiseat_run_spec hx954) rfl rfl rfl ?_
  rintro _ K955 C957 w hk956 ⟨a958, c959, a961, c962, a964, c965, rfl, h960, h963, h966⟩ hS
  replace hS := hS.drop1
  refine s_v rfl rfl rfl ?_
  obtain ⟨x967, hx968, hf⟩ := bs hf
  refine s_call isf46 hS.nilG (bonsaiseat_typ_spec hx968) rfl rfl rfl ?_
  rintro _ K969 C971 w hk970 rfl hS
  replace hS := hS.drop1
  obtain ⟨x972, hx973, hf⟩ := bs hf
  refine s_call isf51 hS.nilG (bonsaiseat_at_spec hx973) rfl rfl rfl ?_
  rintro _ K974 C976 w hk975 rfl hS
  replace hS := hS.drop1
  obtain ⟨x977, hx978, hf⟩ := bs hf
  refine s_call isf66 hS.nilG (bonsaiseat_part_spec hx978) rfl rfl rfl ?_
  rintro _ K979 C981 w hk980 rfl hS
  replace hS := hS.drop1
  obtain ⟨x982, hx983, hf⟩ := bs hf
  refine s_call isf50 hS.nilG (bonsaiseat_one_spec hx983) rfl rfl rfl ?_
  rintro _ K984 C986 w hk985 rfl hS
  replace hS := hS.drop1
  refine s_bwc (cs := ((vv77 x972) ++ ((vv77 x977) ++ ((vv77 x982) ++ [])))) hS rfl rfl rfl rfl rfl rfl rfl rfl rfl rfl ?_
  intro b987 w hS
  have h989 : OwnS 77 K984 (.slice (some ⟨b987, 0, none⟩) 3 3) [x972, x977, x982] [(b987, Cl ((vv77 x972) ++ ((vv77 x977) ++ ((vv77 x982) ++ []))) 77)] := OwnS.lit ⟨(vv77 x972), _, rfl, rfl, ⟨(vv77 x977), _, rfl, rfl, ⟨(vv77 x982), _, rfl, rfl, rfl⟩⟩⟩ rfl rfl
  obtain ⟨K990, hk991, h992, hS⟩ := h989.freeze (hS.sel [0, 1, 2, 3, 4, 5, 6, 7, 8, 9, 10, 11, 12, 13, 14] rfl)
  replace hS : Sat w _ (flat [_, _, _, _, _, _, _, _, _, _, _, _, _, _]) := hS
  obtain ⟨x993, hx994, hf⟩ := bs hf
  refine s_call isf48 hS.nilG (bonsaiseat_method_spec hx994 SlK.nil h992) rfl rfl rfl ?_
  rintro _ K995 C997 w hk996 ⟨a998, c999, a1001, c1002, a1004, c1005, rfl, h1000, h1003, h1006⟩ hS
  replace hS := hS.drop1
  refine s_bwc (cs := ((vv67 x953 a958 c959 a961 c962 a964 c965) ++ ((vv67 x993 a998 c999 a1001 c1002 a1004 c1005) ++ []))) hS rfl rfl rfl rfl rfl rfl rfl rfl rfl rfl ?_
  intro b1007 w hS
  refine s_v (v := (.agg #[(.string (⟨#[67]⟩ : ByteArray)), (.string (⟨#[77, 105, 100]⟩ : ByteArray)), (.slice none 0 0), (.int .i64 1), (.slice none 0 0), (.slice (some ⟨b1007, 0, none⟩) 2 2)])) rfl rfl rfl ?_
  refine s_al hS rfl rfl rfl ?_
  intro b1009 w hS
  replace hS : Sat w K995 (flat ([(b1009, Cl [(.string ByteArray.empty), (.string ByteArray.empty), (.slice none 0 0), (.int .i64 0), (.slice none 0 0), (.slice none 0 0)] 81)] :: _)) := hS
  refine s_st (cs' := [(.string (⟨#[67]⟩ : ByteArray)), (.string (⟨#[77, 105, 100]⟩ : ByteArray)), (.slice none 0 0), (.int .i64 1), (.slice none 0 0), (.slice (some ⟨b1007, 0, none⟩) 2 2)]) 0 hS rfl rfl rfl rfl rfl ?_
  intro w hS
  replace hS : Sat w _ (flat [_, _, _, _, _, _, _, _, _, _, _, _, _, _, _, _]) := hS
  refine s_nil (qn ?_)
  obtain ⟨s1173, hst1174, hf⟩ := bs hf
  have hkk2 := (((((hk956.trans hk970).trans hk975).trans hk980).trans hk985).trans hk991).trans hk996
  have hkk3 := ((((hk970.trans hk975).trans hk980).trans hk985).trans hk991).trans hk996
  refine s_cut (fun τ w => ∃ (K1127 : KM) (C1131 : Chunks) (C1136 : Chunks) (C1141 : Chunks) (C1146 : Chunks) (C1151 : Chunks) (C1156 : Chunks) (C1161 : Chunks) (C1166 : Chunks) (a1169 : Option Addr) (c1170 : Nat) (C1171 : Chunks), τ = [(1, (.pointer (some ⟨b3, 0, none⟩))), (4, (.pointer (some ⟨b29, 0, none⟩))), (5, (.pointer (some ⟨b370, 0, none⟩))), (6, (.pointer (some ⟨b508, 0, none⟩))), (7, (.pointer (some ⟨b900, 0, none⟩))), (8, (.pointer (some ⟨b1009, 0, none⟩)))] ∧ KM.le K K1127 ∧ OwnS 9 K1127 (.slice a96 ([(⟨#[73]⟩ : ByteArray)].length) c97) [(⟨#[73]⟩ : ByteArray)] C1131 ∧ OwnS 97 K1127 (.slice a101 ([(api_Field.mk (⟨#[120]⟩ : ByteArray) (api_Type.mk x7.Kind x7.Class) false), (api_Field.mk (⟨#[110, 101, 120, 116]⟩ : ByteArray) (api_Type.mk x12.Kind x12.Class) false), (api_Field.mk (⟨#[119]⟩ : ByteArray) (api_Type.mk x17.Kind x17.Class) false), (api_Field.mk (⟨#[117, 110, 117, 115, 101, 100]⟩ : ByteArray) (api_Type.mk x22.Kind x22.Class) false)].length) c102) [(api_Field.mk (⟨#[120]⟩ : ByteArray) (api_Type.mk x7.Kind x7.Class) false), (api_Field.mk (⟨#[110, 101, 120, 116]⟩ : ByteArray) (api_Type.mk x12.Kind x12.Class) false), (api_Field.mk (⟨#[119]⟩ : ByteArray) (api_Type.mk x17.Kind x17.Class) false), (api_Field.mk (⟨#[117, 110, 117, 115, 101, 100]⟩ : ByteArray) (api_Type.mk x22.Kind x22.Class) false)] C1136 ∧ OwnS 67 K1127 (.slice a197 s201.length c198) s201 C1141 ∧ OwnS 97 K1127 (.slice (some ⟨b298, 0, none⟩) ([(api_Field.mk (⟨#[99, 111, 117, 110, 116]⟩ : ByteArray) (api_Type.mk x276.Kind x276.Class) true)].length) 1) [(api_Field.mk (⟨#[99, 111, 117, 110, 116]⟩ : ByteArray) (api_Type.mk x276.Kind x276.Class) true)] C1146 ∧ OwnS 67 K1127 (.slice a447 s451.length c448) s451 C1151 ∧ OwnS 67 K1127 (.slice a773 s777.length c774) s777 C1156 ∧ OwnS 9 K1127 (.slice a936 s945.length c937) s945 C1161 ∧ OwnS 97 K1127 (.slice a941 ([(api_Field.mk (⟨#[109]⟩ : ByteArray) (api_Type.mk x893.Kind x893.Class) false)].length) c942) [(api_Field.mk (⟨#[109]⟩ : ByteArray) (api_Type.mk x893.Kind x893.Class) false)] C1166 ∧ OwnS 67 K1127 (.slice a1169 s1173.length c1170) s1173 C1171 ∧ Sat w K1127 (flat [[(b3, Cl (vv68 p1) 68)], [(b29, Cl [(.string (⟨#[66, 97, 115, 101]⟩ : ByteArray)), (.string (⟨#[79, 98, 106, 101, 99, 116]⟩ : ByteArray)), (.slice a96 ([(⟨#[73]⟩ : ByteArray)].length) c97), (.int .i64 2), (.slice a101 ([(api_Field.mk (⟨#[120]⟩ : ByteArray) (api_Type.mk x7.Kind x7.Class) false), (api_Field.mk (⟨#[110, 101, 120, 116]⟩ : ByteArray) (api_Type.mk x12.Kind x12.Class) false), (api_Field.mk (⟨#[119]⟩ : ByteArray) (api_Type.mk x17.Kind x17.Class) false), (api_Field.mk (⟨#[117, 110, 117, 115, 101, 100]⟩ : ByteArray) (api_Type.mk x22.Kind x22.Class) false)].length) c102), (.slice a197 s201.length c198)] 81)], C1131, C1136, C1141, [(b370, Cl [(.string (⟨#[65]⟩ : ByteArray)), (.string (⟨#[66, 97, 115, 101]⟩ : ByteArray)), (.slice none 0 0), (.int .i64 1), (.slice (some ⟨b298, 0, none⟩) ([(api_Field.mk (⟨#[99, 111, 117, 110, 116]⟩ : ByteArray) (api_Type.mk x276.Kind x276.Class) true)].length) 1), (.slice a447 s451.length c448)] 81)], C1146, C1151, [(b508, Cl [(.string (⟨#[66]⟩ : ByteArray)), (.string (⟨#[65]⟩ : ByteArray)), (.slice none 0 0), (.int .i64 x499), (.slice none 0 0), (.slice a773 s777.length c774)] 81)], C1156, [(b900, Cl [(.string (⟨#[77, 105, 100]⟩ : ByteArray)), (.string (⟨#[66, 97, 115, 101]⟩ : ByteArray)), (.slice a936 s945.length c937), (.int .i64 2), (.slice a941 ([(api_Field.mk (⟨#[109]⟩ : ByteArray) (api_Type.mk x893.Kind x893.Class) false)].length) c942), (.slice none 0 0)] 81)], C1161, C1166, [(b1009, Cl [(.string (⟨#[67]⟩ : ByteArray)), (.string (⟨#[77, 105, 100]⟩ : ByteArray)), (.slice none 0 0), (.int .i64 1), (.slice none 0 0), (.slice a1169 s1173.length c1170)] 81)], C1171, L])) (fun J hJ => ?_) ?_
  · replace hf := hst1174
    refine s_seq (s_reg ?_)
    refine s_v rfl rfl rfl ?_
    refine s_ld 2 hS rfl rfl rfl rfl rfl ?_
    iterate 2 refine s_v rfl rfl rfl ?_
    refine s_nil (qn ?_)
    refine s_if rfl (fun hc => ?_) (fun hc => ?_)
    · replace hf := bif_t hc hf
      refine d_start [] [(14, [0])] hS ?_
      intro w hS
      refine d_v 0 (fun _ _ _ _ _ h => h) [] hS rfl rfl rfl (by kernel_rfl) rfl rfl ?_
      refine d_ldh 1 0 (fun _ _ _ _ _ h => h) [] hS rfl rfl rfl (by kernel_rfl) rfl rfl (by kernel_rfl) rfl rfl ?_
      refine d_v 2 (fun _ _ _ _ _ h => h) [] hS rfl rfl rfl (by kernel_rfl) rfl rfl ?_
      refine d_op 3 rfl (by kernel_rfl) (by kernel_rfl) (fun X hX => ?_)
      have hlq := KM.le.refl K995
      obtain ⟨x1233, hx1234, hf⟩ := bs hf
      refine s_call isf46 hS.nilG (bonsaiseat_typ_spec hx1234) rfl rfl rfl ?_
      rintro _ K1235 C1237 w hk1236 rfl hS
      replace hS := hS.drop1
      replace hlq := hlq.trans hk1236
      refine d_go [] [] [(14, [0])] [some 0] hX hS hlq rfl rfl ⟨rfl, trivial⟩ ?_
      refine d_op 4 rfl (by kernel_rfl) (by kernel_rfl) (fun X hX => ?_)
      have hlq := KM.le.refl K1235
      obtain ⟨x1238, hx1239, hf⟩ := bs hf
      refine s_call isf51 hS.nilG (bonsaiseat_at_spec hx1239) rfl rfl rfl ?_
      rintro _ K1240 C1242 w hk1241 rfl hS
      replace hS := hS.drop1
      replace hlq := hlq.trans hk1241
      refine d_go [] [] [(14, [0])] [some 0] hX hS hlq rfl rfl ⟨rfl, trivial⟩ ?_
      refine d_op 5 rfl (by kernel_rfl) (by kernel_rfl) (fun X hX => ?_)
      have hlq := KM.le.refl K1240
      obtain ⟨x1243, hx1244, hf⟩ := bs hf
      refine s_call isf65 hS.nilG (bonsaiseat_call_spec hx1244) rfl rfl rfl ?_
      rintro _ K1245 C1247 w hk1246 rfl hS
      replace hS := hS.drop1
      replace hlq := hlq.trans hk1246
      refine d_go [] [] [(14, [0])] [some 0] hX hS hlq rfl rfl ⟨rfl, trivial⟩ ?_
      refine d_op 6 rfl (by kernel_rfl) (by kernel_rfl) (fun X hX => ?_)
      have hlq := KM.le.refl K1245
      obtain ⟨x1248, hx1249, hf⟩ := bs hf
      refine s_call isf60 hS.nilG (bonsaiseat_str_spec hx1249) rfl rfl rfl ?_
      rintro _ K1250 C1252 w hk1251 rfl hS
      replace hS := hS.drop1
      replace hlq := hlq.trans hk1251
      refine d_go [] [] [(14, [0])] [some 0] hX hS hlq rfl rfl ⟨rfl, trivial⟩ ?_
      refine d_op 7 rfl (by kernel_rfl) (by kernel_rfl) (fun X hX => ?_)
      have hlq := KM.le.refl K1250
      obtain ⟨x1253, hx1254, hf⟩ := bs hf
      refine s_call isf50 hS.nilG (bonsaiseat_one_spec hx1254) rfl rfl rfl ?_
      rintro _ K1255 C1257 w hk1256 rfl hS
      replace hS := hS.drop1
      replace hlq := hlq.trans hk1256
      refine d_go [] [] [(14, [0])] [some 0] hX hS hlq rfl rfl ⟨rfl, trivial⟩ ?_
      refine d_op 8 rfl (by kernel_rfl) (by kernel_rfl) (fun X hX => ?_)
      have hlq := KM.le.refl K1255
      obtain ⟨x1258, hx1259, hf⟩ := bs hf
      refine s_call isf50 hS.nilG (bonsaiseat_one_spec hx1259) rfl rfl rfl ?_
      rintro _ K1260 C1262 w hk1261 rfl hS
      replace hS := hS.drop1
      replace hlq := hlq.trans hk1261
      refine d_go [] [] [(14, [0])] [some 0] hX hS hlq rfl rfl ⟨rfl, trivial⟩ ?_
      refine d_op 9 rfl (by kernel_rfl) (by kernel_rfl) (fun X hX => ?_)
      have hlq := KM.le.refl K1260
      refine s_bwc (cs := ((vv77 x1238) ++ ((vv77 x1243) ++ ((vv77 x1248) ++ ((vv77 x1253) ++ ((vv77 x1258) ++ [])))))) hS rfl rfl rfl rfl rfl rfl rfl rfl rfl rfl ?_
      intro b1263 w hS
      refine d_go [] [] [(14, [1])] [some 0] hX hS hlq rfl rfl ⟨rfl, trivial⟩ ?_
      refine d_op 10 rfl (by kernel_rfl) (by kernel_rfl) (fun X hX => ?_)
      have hlq := KM.le.refl K1260
      have h1265 : OwnS 77 K1260 (.slice (some ⟨b1263, 0, none⟩) 5 5) [x1238, x1243, x1248, x1253, x1258] [(b1263, Cl ((vv77 x1238) ++ ((vv77 x1243) ++ ((vv77 x1248) ++ ((vv77 x1253) ++ ((vv77 x1258) ++ []))))) 77)] := OwnS.lit ⟨(vv77 x1238), _, rfl, rfl, ⟨(vv77 x1243), _, rfl, rfl, ⟨(vv77 x1248), _, rfl, rfl, ⟨(vv77 x1253), _, rfl, rfl, ⟨(vv77 x1258), _, rfl, rfl, rfl⟩⟩⟩⟩⟩ rfl rfl
      obtain ⟨K1266, hk1267, h1268, hS⟩ := h1265.freeze (hS.sel [0, 1, 2, 3, 4, 5, 6, 7, 8, 9, 10, 11, 12, 13, 14, 15, 16] rfl)
      replace hS : Sat w _ (flat [_, _, _, _, _, _, _, _, _, _, _, _, _, _, _, _]) := hS
      obtain ⟨x1269, hx1270, hf⟩ := bs hf
      refine s_call isf48 hS.nilG (bonsaiseat_method_spec hx1270 SlK.nil h1268) rfl rfl rfl ?_
      rintro _ K1271 C1273 w hk1272 ⟨a1274, c1275, a1277, c1278, a1280, c1281, rfl, h1276, h1279, h1282⟩ hS
      replace hS := hS.drop1
      replace hlq := hlq.trans (hk1267.trans hk1272)
      refine d_go [] [] [(14, [0])] [some 0] hX hS hlq rfl rfl ⟨rfl, trivial⟩ ?_
      refine d_op 11 rfl (by kernel_rfl) (by kernel_rfl) (fun X hX => ?_)
      have hlq := KM.le.refl K1271
      refine s_bwc (cs := (vv67 x1269 a1274 c1275 a1277 c1278 a1280 c1281)) hS rfl rfl rfl rfl rfl rfl rfl rfl rfl rfl ?_
      intro b1283 w hS
      refine d_go [] [] [(14, [1])] [some 0] hX hS hlq rfl rfl ⟨rfl, trivial⟩ ?_
      refine d_op 12 rfl (by kernel_rfl) (by kernel_rfl) (fun X hX => ?_)
      have hlq := KM.le.refl K1271
      have hkk4 := (((((((hkk3.trans hk1236).trans hk1241).trans hk1246).trans hk1251).trans hk1256).trans hk1261).trans hk1267).trans hk1272
      replace h960 := h960.mono hkk4
      replace h963 := h963.mono hkk4
      replace h966 := h966.mono hkk4
      have hkk5 := ((((((hk1236.trans hk1241).trans hk1246).trans hk1251).trans hk1256).trans hk1261).trans hk1267).trans hk1272
      replace h1000 := h1000.mono hkk5
      replace h1003 := h1003.mono hkk5
      replace h1006 := h1006.mono hkk5
      have h1285 : OwnS 67 K1271 (.slice (some ⟨b1007, 0, none⟩) 2 2) [x953, x993] [(b1007, Cl ((vv67 x953 a958 c959 a961 c962 a964 c965) ++ ((vv67 x993 a998 c999 a1001 c1002 a1004 c1005) ++ [])) 67)] := OwnS.lit ⟨(vv67 x953 a958 c959 a961 c962 a964 c965), _, rfl, ⟨a958, c959, a961, c962, a964, c965, rfl, h960, h963, h966⟩, ⟨(vv67 x993 a998 c999 a1001 c1002 a1004 c1005), _, rfl, ⟨a998, c999, a1001, c1002, a1004, c1005, rfl, h1000, h1003, h1006⟩, rfl⟩⟩ rfl rfl
      obtain ⟨hm1286, hf⟩ := gs hf
      refine s_appv (e := 67) (ys := ([x1269] : List api_Method)) 2 0 hS rfl h1285 rfl ⟨(vv67 x1269 a1274 c1275 a1277 c1278 a1280 c1281), _, rfl, ⟨a1274, c1275, a1277, c1278, a1280, c1281, rfl, h1276, h1279, h1282⟩, rfl⟩ rfl rfl rfl rfl rfl rfl rfl rfl (roomy_le hm1286) rfl rfl rfl ?_
      intro a1287 c1288 w C1289 h1290 hS
      replace hS : Sat w _ (flat [_, _, _, _, _, _, _, _, _, _, _, _, _, _, _, _, _]) := hS
      refine d_go [] [] [(14, [1])] [some 0] hX hS hlq rfl rfl ⟨rfl, trivial⟩ ?_
      refine d_v 13 (fun _ _ _ _ _ h => h) [] hS rfl rfl rfl (by kernel_rfl) rfl rfl ?_
      refine d_op 14 rfl (by kernel_rfl) (by kernel_rfl) (fun X hX => ?_)
      have hlq := KM.le.refl K1271
      refine s_st (cs' := [(.string (⟨#[67]⟩ : ByteArray)), (.string (⟨#[77, 105, 100]⟩ : ByteArray)), (.slice none 0 0), (.int .i64 1), (.slice none 0 0), (.slice a1287 (([x953, x993] ++ ([x1269] : List api_Method)).length) c1288)]) 1 hS rfl rfl rfl rfl rfl ?_
      intro w hS
      replace hS : Sat w _ (flat [_, _, _, _, _, _, _, _, _, _, _, _, _, _, _, _, _]) := hS
      refine d_go [] [1] [] [none] hX hS hlq rfl rfl ⟨rfl, trivial⟩ ?_
      refine d_end (by kernel_rfl) ?_
      refine qn ?_
      have hq := Option.some.inj hf
      subst hq
      have hkk6 := (((((((hkk2.trans hk1236).trans hk1241).trans hk1246).trans hk1251).trans hk1256).trans hk1261).trans hk1267).trans hk1272
      replace h905 := h905.mono hkk6
      replace h910 := h910.mono hkk6
      replace h915 := h915.mono hkk6
      replace h920 := h920.mono hkk6
      replace h925 := h925.mono hkk6
      replace h930 := h930.mono hkk6
      replace h935 := h935.mono hkk6
      replace h940 := h940.mono hkk6
      replace hle := hle.trans hkk6
      refine s_join hJ _ ⟨K1271, C908, C913, C918, C923, C928, C933, C938, C943, a1287, c1288, C1289, rfl, hle, h905, h910, h915, h920, h925, h930, h935, h940, h1290, (hS.sel [3, 4, 5, 6, 7, 8, 9, 10, 11, 12, 13, 14, 15, 1, 2, 16] rfl)⟩ ⟨rfl, rfl, rfl, rfl, rfl, rfl, trivial⟩
    replace hf := bif_f hc hf
    refine s_skip (qn ?_)
    replace h960 := h960.mono hkk3
    replace h963 := h963.mono hkk3
    replace h966 := h966.mono hkk3
    have h1291 : OwnS 67 K995 (.slice (some ⟨b1007, 0, none⟩) 2 2) [x953, x993] [(b1007, Cl ((vv67 x953 a958 c959 a961 c962 a964 c965) ++ ((vv67 x993 a998 c999 a1001 c1002 a1004 c1005) ++ [])) 67)] := OwnS.lit ⟨(vv67 x953 a958 c959 a961 c962 a964 c965), _, rfl, ⟨a958, c959, a961, c962, a964, c965, rfl, h960, h963, h966⟩, ⟨(vv67 x993 a998 c999 a1001 c1002 a1004 c1005), _, rfl, ⟨a998, c999, a1001, c1002, a1004, c1005, rfl, h1000, h1003, h1006⟩, rfl⟩⟩ rfl rfl
    have hq := Option.some.inj hf
    subst hq
    replace h905 := h905.mono hkk2
    replace h910 := h910.mono hkk2
    replace h915 := h915.mono hkk2
    replace h920 := h920.mono hkk2
    replace h925 := h925.mono hkk2
    replace h930 := h930.mono hkk2
    replace h935 := h935.mono hkk2
    replace h940 := h940.mono hkk2
    replace hle := hle.trans hkk2
    refine s_join hJ _ ⟨K995, C908, C913, C918, C923, C928, C933, C938, C943, (some ⟨b1007, 0, none⟩), 2, [(b1007, Cl ((vv67 x953 a958 c959 a961 c962 a964 c965) ++ ((vv67 x993 a998 c999 a1001 c1002 a1004 c1005) ++ [])) 67)], rfl, hle, h905, h910, h915, h920, h925, h930, h935, h940, h1291, (hS.sel [2, 3, 4, 5, 6, 7, 8, 9, 10, 11, 12, 13, 14, 0, 1, 15] rfl)⟩ ⟨rfl, rfl, rfl, rfl, rfl, rfl, trivial⟩
  rintro _ w ⟨K1127, C1131, C1136, C1141, C1146, C1151, C1156, C1161, C1166, a1169, c1170, C1171, rfl, hle, h1128, h1133, h1138, h1143, h1148, h1153, h1158, h1163, h1168, hS⟩
  refine s_seq ?_
  obtain ⟨x1342, hx1343, hf⟩ := bs hf
  obtain ⟨x1357, hx1358, hf⟩ := bs hf
  obtain ⟨x1417, hx1418, hf⟩ := bs hf
  refine d_make (G := [[(b3, Cl (vv68 p1) 68)], [(b29, Cl [(.string (⟨#[66, 97, 115, 101]⟩ : ByteArray)), (.string (⟨#[79, 98, 106, 101, 99, 116]⟩ : ByteArray)), (.slice a96 ([(⟨#[73]⟩ : ByteArray)].length) c97), (.int .i64 2), (.slice a101 ([(api_Field.mk (⟨#[120]⟩ : ByteArray) (api_Type.mk x7.Kind x7.Class) false), (api_Field.mk (⟨#[110, 101, 120, 116]⟩ : ByteArray) (api_Type.mk x12.Kind x12.Class) false), (api_Field.mk (⟨#[119]⟩ : ByteArray) (api_Type.mk x17.Kind x17.Class) false), (api_Field.mk (⟨#[117, 110, 117, 115, 101, 100]⟩ : ByteArray) (api_Type.mk x22.Kind x22.Class) false)].length) c102), (.slice a197 s201.length c198)] 81)], C1131, C1136, C1141, [(b370, Cl [(.string (⟨#[65]⟩ : ByteArray)), (.string (⟨#[66, 97, 115, 101]⟩ : ByteArray)), (.slice none 0 0), (.int .i64 1), (.slice (some ⟨b298, 0, none⟩) ([(api_Field.mk (⟨#[99, 111, 117, 110, 116]⟩ : ByteArray) (api_Type.mk x276.Kind x276.Class) true)].length) 1), (.slice a447 s451.length c448)] 81)], C1146, C1151, [(b508, Cl [(.string (⟨#[66]⟩ : ByteArray)), (.string (⟨#[65]⟩ : ByteArray)), (.slice none 0 0), (.int .i64 x499), (.slice none 0 0), (.slice a773 s777.length c774)] 81)], C1156, [(b900, Cl [(.string (⟨#[77, 105, 100]⟩ : ByteArray)), (.string (⟨#[66, 97, 115, 101]⟩ : ByteArray)), (.slice a936 s945.length c937), (.int .i64 2), (.slice a941 ([(api_Field.mk (⟨#[109]⟩ : ByteArray) (api_Type.mk x893.Kind x893.Class) false)].length) c942), (.slice none 0 0)] 81)], C1161, C1166, [(b1009, Cl [(.string (⟨#[67]⟩ : ByteArray)), (.string (⟨#[77, 105, 100]⟩ : ByteArray)), (.slice none 0 0), (.int .i64 1), (.slice none 0 0), (.slice a1169 s1173.length c1170)] 81)], C1171, L]) [⟨14, some 9, [], [], fun K D v C => ∃ (b1475 : Nat), v = (.pointer (some ⟨b1475, 0, none⟩)) ∧ C = [(b1475, Cl [(.string ByteArray.empty), (.string ByteArray.empty), (.slice none 0 0), (.int .i64 0), (.slice none 0 0), (.slice none 0 0)] 81)]⟩, ⟨13, some 159, [], [146, 151, 158], fun K D v C => ∃ (b1463 : Nat) (b1465 : Nat) (b1467 : Nat), v = (.agg #[(.string (⟨#[68]⟩ : ByteArray)), (.string (⟨#[66, 97, 115, 101]⟩ : ByteArray)), (.slice (some ⟨b1463, 0, none⟩) 1 1), (.int .i64 3), (.slice (some ⟨b1465, 0, none⟩) 2 2), (.slice (some ⟨b1467, 0, none⟩) 1 1)]) ∧ D 146 = some (.slice (some ⟨b1463, 0, none⟩) 1 1) ∧ D 151 = some (.slice (some ⟨b1465, 0, none⟩) 2 2) ∧ D 158 = some (.slice (some ⟨b1467, 0, none⟩) 1 1) ∧ C = []⟩, ⟨12, some 158, [], [], fun K D v C => ∃ (C1450 : Chunks) (b1451 : Nat), v = (.slice (some ⟨b1451, 0, none⟩) 1 1) ∧ OwnS 67 K (.slice (some ⟨b1451, 0, none⟩) 1 1) [x1417] C1450 ∧ C1450 = C⟩, ⟨11, some 157, [], [], fun K D v C => ∃ (a1431 : Option Addr) (c1432 : Nat) (a1434 : Option Addr) (c1435 : Nat) (a1437 : Option Addr) (c1438 : Nat), v = (.agg (vv67 x1417 a1431 c1432 a1434 c1435 a1437 c1438).toArray) ∧ SlK 63 K a1431 c1432 x1417.Params ∧ SlK 77 K a1434 c1435 x1417.Code ∧ SlK 92 K a1437 c1438 x1417.Handlers ∧ C = []⟩, ⟨10, some 156, [], [], fun K D v C => v = (.int .u8 (w8 (p1.e1 + p1.e2))) ∧ C = []⟩, ⟨9, some 155, [], [], fun K D v C => v = (.int .u8 p1.e2) ∧ C = []⟩, ⟨8, some 154, [], [], fun K D v C => v = (.pointer (some ⟨b3, 2, none⟩)) ∧ C = []⟩, ⟨7, some 153, [], [], fun K D v C => v = (.int .u8 p1.e1) ∧ C = []⟩, ⟨6, some 152, [], [], fun K D v C => v = (.pointer (some ⟨b3, 1, none⟩)) ∧ C = []⟩, ⟨5, some 151, [], [], fun K D v C => ∃ (C1380 : Chunks) (b1381 : Nat), v = (.slice (some ⟨b1381, 0, none⟩) 2 2) ∧ OwnS 97 K (.slice (some ⟨b1381, 0, none⟩) 2 2) [(api_Field.mk (⟨#[119, 97, 115, 116, 101]⟩ : ByteArray) (api_Type.mk x1342.Kind x1342.Class) true), (api_Field.mk (⟨#[120]⟩ : ByteArray) (api_Type.mk x1357.Kind x1357.Class) false)] C1380 ∧ C1380 = C⟩, ⟨4, some 150, [], [], fun K D v C => v = (.agg #[(.string (⟨#[120]⟩ : ByteArray)), (.int .i64 x1357.Kind), (.string x1357.Class), (.bool false)]) ∧ C = []⟩, ⟨3, some 149, [], [], fun K D v C => v = (.agg (vv63 x1357).toArray) ∧ C = []⟩, ⟨2, some 148, [], [], fun K D v C => v = (.agg #[(.string (⟨#[119, 97, 115, 116, 101]⟩ : ByteArray)), (.int .i64 x1342.Kind), (.string x1342.Class), (.bool true)]) ∧ C = []⟩, ⟨1, some 147, [], [], fun K D v C => v = (.agg (vv63 x1342).toArray) ∧ C = []⟩, ⟨0, some 146, [], [], fun K D v C => ∃ (C1335 : Chunks) (b1336 : Nat), v = (.slice (some ⟨b1336, 0, none⟩) 1 1) ∧ OwnS 9 K (.slice (some ⟨b1336, 0, none⟩) 1 1) ([(⟨#[74]⟩ : ByteArray)] : List ByteArray) C1335 ∧ C1335 = C⟩] #[true, true, true, true, true, true, true, true, true, true, true, true, true, true, true, false] 0 1 ⟨by kernel_rfl, by kernel_rfl, by kernel_rfl, by kernel_rfl, by kernel_rfl, by kernel_rfl, by kernel_rfl⟩ rfl (by kernel_rfl) rfl hS ⟨?_, ?_, ?_, ?_, ?_, ?_, ?_, ?_, ?_, ?_, ?_, ?_, ?_, ?_, ?_, trivial⟩ ?_
  · refine ⟨_, rfl, rfl, rfl, ?_⟩
    intro K1469 w Y1470 σ hl0 hS hd hs X hX
    replace hS : Sat w K1469 (flat [_, _, _, _, _, _, _, _, _, _, _, _, _, _, _, _, Y1470]) := Sat.unnil hS
    have hh1472 : within [] σ := trivial
    refine rg_head hh1472 ?_
    have hle := KM.le.refl K1469
    refine s_al hS rfl rfl rfl ?_
    intro b1473 w hS
    replace hS : Sat w K1469 (flat ([(b1473, Cl [(.string ByteArray.empty), (.string ByteArray.empty), (.slice none 0 0), (.int .i64 0), (.slice none 0 0), (.slice none 0 0)] 81)] :: _)) := hS
    refine s_nil ?_
    exact hX _ _ _ _ _ hh1472 hle ⟨b1473, rfl, rfl⟩ hS
  · refine ⟨_, rfl, rfl, rfl, ?_⟩
    intro K1453 w Y1454 σ hl0 hS hd hs X hX
    replace hS : Sat w K1453 (flat [_, _, _, _, _, _, _, _, _, _, _, _, _, _, _, _, Y1454]) := Sat.unnil hS
    obtain ⟨_, _, _, hk1457, hv1456, C1335, b1336, rfl, h1337, _⟩ := hd 14 _ rfl (by kernel_rfl)
    obtain ⟨_, _, _, hk1459, hv1458, C1380, b1381, rfl, h1382, _⟩ := hd 9 _ rfl (by kernel_rfl)
    obtain ⟨_, _, _, hk1461, hv1460, C1450, b1451, rfl, h1452, _⟩ := hd 2 _ rfl (by kernel_rfl)
    have hh1462 : within [(146, (.slice (some ⟨b1336, 0, none⟩) 1 1)), (151, (.slice (some ⟨b1381, 0, none⟩) 2 2)), (158, (.slice (some ⟨b1451, 0, none⟩) 1 1))] σ := ⟨hv1456, hv1458, hv1460, trivial⟩
    refine rg_head hh1462 ?_
    have hle := KM.le.refl K1453
    refine s_v (v := (.agg #[(.string (⟨#[68]⟩ : ByteArray)), (.string (⟨#[66, 97, 115, 101]⟩ : ByteArray)), (.slice (some ⟨b1336, 0, none⟩) 1 1), (.int .i64 3), (.slice (some ⟨b1381, 0, none⟩) 2 2), (.slice (some ⟨b1451, 0, none⟩) 1 1)])) rfl rfl rfl ?_
    refine s_nil ?_
    exact hX _ _ _ _ _ hh1462 hle ⟨b1336, b1381, b1451, rfl, hv1456, hv1458, hv1460, rfl⟩ hS.nilG
  · refine ⟨_, rfl, rfl, rfl, ?_⟩
    intro K1440 w Y1441 σ hl0 hS hd hs X hX
    replace hS : Sat w K1440 (flat [_, _, _, _, _, _, _, _, _, _, _, _, _, _, _, _, Y1441]) := Sat.unnil hS
    obtain ⟨_, _, _, hk1444, hv1443, a1431, c1432, a1434, c1435, a1437, c1438, rfl, h1433, h1436, h1439, _⟩ := hd 3 _ rfl (by kernel_rfl)
    have hh1445 : within [(157, (.agg (vv67 x1417 a1431 c1432 a1434 c1435 a1437 c1438).toArray))] σ := ⟨hv1443, trivial⟩
    refine rg_head hh1445 ?_
    have hle := KM.le.refl K1440
    refine s_bwc (cs := (vv67 x1417 a1431 c1432 a1434 c1435 a1437 c1438)) hS rfl rfl rfl rfl rfl rfl rfl rfl rfl rfl ?_
    intro b1446 w hS
    replace h1433 := h1433.mono hk1444
    replace h1436 := h1436.mono hk1444
    replace h1439 := h1439.mono hk1444
    have h1448 : OwnS 67 K1440 (.slice (some ⟨b1446, 0, none⟩) 1 1) [x1417] [(b1446, Cl (vv67 x1417 a1431 c1432 a1434 c1435 a1437 c1438) 67)] := OwnS.lit ⟨(vv67 x1417 a1431 c1432 a1434 c1435 a1437 c1438), _, rfl, ⟨a1431, c1432, a1434, c1435, a1437, c1438, rfl, h1433, h1436, h1439⟩, rfl⟩ rfl rfl
    refine s_nil ?_
    exact hX _ _ _ _ _ hh1445 hle ⟨[(b1446, Cl (vv67 x1417 a1431 c1432 a1434 c1435 a1437 c1438) 67)], b1446, rfl, h1448, rfl⟩ hS
  · refine ⟨_, rfl, rfl, rfl, ?_⟩
    intro K1411 w Y1412 σ hl0 hS hd hs X hX
    replace hS : Sat w K1411 (flat [_, _, _, _, _, _, _, _, _, _, _, _, _, _, _, _, Y1412]) := Sat.unnil hS
    obtain ⟨_, _, _, hk1415, hv1414, rfl, _⟩ := hd 4 _ rfl (by kernel_rfl)
    have hh1416 : within [(156, (.int .u8 (w8 (p1.e1 + p1.e2))))] σ := ⟨hv1414, trivial⟩
    refine rg_head hh1416 ?_
    have hle := KM.le.refl K1411
    refine s_call isf64 hS.nilG (bonsaiseat_run_spec hx1418) rfl rfl rfl ?_
    rintro _ K1419 C1421 w hk1420 ⟨a1422, c1423, a1425, c1426, a1428, c1429, rfl, h1424, h1427, h1430⟩ hS
    replace hS := hS.drop1
    refine s_nil ?_
    replace hle := hle.trans hk1420
    exact hX _ _ _ _ _ hh1416 hle ⟨a1422, c1423, a1425, c1426, a1428, c1429, rfl, h1424, h1427, h1430, rfl⟩ hS.nilG
  · refine ⟨_, rfl, rfl, rfl, ?_⟩
    intro K1403 w Y1404 σ hl0 hS hd hs X hX
    replace hS : Sat w K1403 (flat [_, _, _, _, _, _, _, _, _, _, _, _, _, _, _, _, Y1404]) := Sat.unnil hS
    obtain ⟨_, _, _, hk1407, hv1406, rfl, _⟩ := hd 7 _ rfl (by kernel_rfl)
    obtain ⟨_, _, _, hk1409, hv1408, rfl, _⟩ := hd 5 _ rfl (by kernel_rfl)
    have hh1410 : within [(153, (.int .u8 p1.e1)), (155, (.int .u8 p1.e2))] σ := ⟨hv1406, hv1408, trivial⟩
    refine rg_head hh1410 ?_
    have hle := KM.le.refl K1403
    refine s_v rfl rfl rfl ?_
    refine s_nil ?_
    exact hX _ _ _ _ _ hh1410 hle ⟨rfl, rfl⟩ hS.nilG
  · refine ⟨_, rfl, rfl, rfl, ?_⟩
    intro K1397 w Y1398 σ hl0 hS hd hs X hX
    replace hS : Sat w K1397 (flat [_, _, _, _, _, _, _, _, _, _, _, _, _, _, _, _, Y1398]) := Sat.unnil hS
    obtain ⟨_, _, _, hk1401, hv1400, rfl, _⟩ := hd 6 _ rfl (by kernel_rfl)
    have hh1402 : within [(154, (.pointer (some ⟨b3, 2, none⟩)))] σ := ⟨hv1400, trivial⟩
    refine rg_head hh1402 ?_
    have hle := KM.le.refl K1397
    refine s_ld 0 hS rfl rfl rfl rfl rfl ?_
    refine s_nil ?_
    exact hX _ _ _ _ _ hh1402 hle ⟨rfl, rfl⟩ hS.nilG
  · refine ⟨_, rfl, rfl, rfl, ?_⟩
    intro K1393 w Y1394 σ hl0 hS hd hs X hX
    replace hS : Sat w K1393 (flat [_, _, _, _, _, _, _, _, _, _, _, _, _, _, _, _, Y1394]) := Sat.unnil hS
    have hh1396 : within [(1, (.pointer (some ⟨b3, 0, none⟩)))] σ := ⟨hs 1 _ rfl rfl, trivial⟩
    refine rg_head hh1396 ?_
    have hle := KM.le.refl K1393
    refine s_v rfl rfl rfl ?_
    refine s_nil ?_
    exact hX _ _ _ _ _ hh1396 hle ⟨rfl, rfl⟩ hS.nilG
  · refine ⟨_, rfl, rfl, rfl, ?_⟩
    intro K1387 w Y1388 σ hl0 hS hd hs X hX
    replace hS : Sat w K1387 (flat [_, _, _, _, _, _, _, _, _, _, _, _, _, _, _, _, Y1388]) := Sat.unnil hS
    obtain ⟨_, _, _, hk1391, hv1390, rfl, _⟩ := hd 8 _ rfl (by kernel_rfl)
    have hh1392 : within [(152, (.pointer (some ⟨b3, 1, none⟩)))] σ := ⟨hv1390, trivial⟩
    refine rg_head hh1392 ?_
    have hle := KM.le.refl K1387
    refine s_ld 0 hS rfl rfl rfl rfl rfl ?_
    refine s_nil ?_
    exact hX _ _ _ _ _ hh1392 hle ⟨rfl, rfl⟩ hS.nilG
  · refine ⟨_, rfl, rfl, rfl, ?_⟩
    intro K1383 w Y1384 σ hl0 hS hd hs X hX
    replace hS : Sat w K1383 (flat [_, _, _, _, _, _, _, _, _, _, _, _, _, _, _, _, Y1384]) := Sat.unnil hS
    have hh1386 : within [(1, (.pointer (some ⟨b3, 0, none⟩)))] σ := ⟨hs 1 _ rfl rfl, trivial⟩
    refine rg_head hh1386 ?_
    have hle := KM.le.refl K1383
    refine s_v rfl rfl rfl ?_
    refine s_nil ?_
    exact hX _ _ _ _ _ hh1386 hle ⟨rfl, rfl⟩ hS.nilG
  · refine ⟨_, rfl, rfl, rfl, ?_⟩
    intro K1368 w Y1369 σ hl0 hS hd hs X hX
    replace hS : Sat w K1368 (flat [_, _, _, _, _, _, _, _, _, _, _, _, _, _, _, _, Y1369]) := Sat.unnil hS
    obtain ⟨_, _, _, hk1372, hv1371, rfl, _⟩ := hd 12 _ rfl (by kernel_rfl)
    obtain ⟨_, _, _, hk1374, hv1373, rfl, _⟩ := hd 10 _ rfl (by kernel_rfl)
    have hh1375 : within [(148, (.agg #[(.string (⟨#[119, 97, 115, 116, 101]⟩ : ByteArray)), (.int .i64 x1342.Kind), (.string x1342.Class), (.bool true)])), (150, (.agg #[(.string (⟨#[120]⟩ : ByteArray)), (.int .i64 x1357.Kind), (.string x1357.Class), (.bool false)]))] σ := ⟨hv1371, hv1373, trivial⟩
    refine rg_head hh1375 ?_
    have hle := KM.le.refl K1368
    refine s_bwc (cs := [(.string (⟨#[119, 97, 115, 116, 101]⟩ : ByteArray)), (.int .i64 x1342.Kind), (.string x1342.Class), (.bool true), (.string (⟨#[120]⟩ : ByteArray)), (.int .i64 x1357.Kind), (.string x1357.Class), (.bool false)]) hS rfl rfl rfl rfl rfl rfl rfl rfl rfl rfl ?_
    intro b1376 w hS
    have h1378 : OwnS 97 K1368 (.slice (some ⟨b1376, 0, none⟩) 2 2) [(api_Field.mk (⟨#[119, 97, 115, 116, 101]⟩ : ByteArray) (api_Type.mk x1342.Kind x1342.Class) true), (api_Field.mk (⟨#[120]⟩ : ByteArray) (api_Type.mk x1357.Kind x1357.Class) false)] [(b1376, Cl [(.string (⟨#[119, 97, 115, 116, 101]⟩ : ByteArray)), (.int .i64 x1342.Kind), (.string x1342.Class), (.bool true), (.string (⟨#[120]⟩ : ByteArray)), (.int .i64 x1357.Kind), (.string x1357.Class), (.bool false)] 97)] := OwnS.lit ⟨[(.string (⟨#[119, 97, 115, 116, 101]⟩ : ByteArray)), (.int .i64 x1342.Kind), (.string x1342.Class), (.bool true)], _, rfl, rfl, ⟨[(.string (⟨#[120]⟩ : ByteArray)), (.int .i64 x1357.Kind), (.string x1357.Class), (.bool false)], _, rfl, rfl, rfl⟩⟩ rfl rfl
    refine s_nil ?_
    exact hX _ _ _ _ _ hh1375 hle ⟨[(b1376, Cl [(.string (⟨#[119, 97, 115, 116, 101]⟩ : ByteArray)), (.int .i64 x1342.Kind), (.string x1342.Class), (.bool true), (.string (⟨#[120]⟩ : ByteArray)), (.int .i64 x1357.Kind), (.string x1357.Class), (.bool false)] 97)], b1376, rfl, h1378, rfl⟩ hS
  · refine ⟨_, rfl, rfl, rfl, ?_⟩
    intro K1362 w Y1363 σ hl0 hS hd hs X hX
    replace hS : Sat w K1362 (flat [_, _, _, _, _, _, _, _, _, _, _, _, _, _, _, _, Y1363]) := Sat.unnil hS
    obtain ⟨_, _, _, hk1366, hv1365, rfl, _⟩ := hd 11 _ rfl (by kernel_rfl)
    have hh1367 : within [(149, (.agg (vv63 x1357).toArray))] σ := ⟨hv1365, trivial⟩
    refine rg_head hh1367 ?_
    have hle := KM.le.refl K1362
    refine s_v (v := (.agg #[(.string (⟨#[120]⟩ : ByteArray)), (.int .i64 x1357.Kind), (.string x1357.Class), (.bool false)])) rfl rfl rfl ?_
    refine s_nil ?_
    exact hX _ _ _ _ _ hh1367 hle ⟨rfl, rfl⟩ hS.nilG
  · refine ⟨_, rfl, rfl, rfl, ?_⟩
    intro K1353 w Y1354 σ hl0 hS hd hs X hX
    replace hS : Sat w K1353 (flat [_, _, _, _, _, _, _, _, _, _, _, _, _, _, _, _, Y1354]) := Sat.unnil hS
    have hh1356 : within [] σ := trivial
    refine rg_head hh1356 ?_
    have hle := KM.le.refl K1353
    refine s_call isf46 hS.nilG (bonsaiseat_typ_spec hx1358) rfl rfl rfl ?_
    rintro _ K1359 C1361 w hk1360 rfl hS
    replace hS := hS.drop1
    refine s_nil ?_
    replace hle := hle.trans hk1360
    exact hX _ _ _ _ _ hh1356 hle ⟨rfl, rfl⟩ hS.nilG
  · refine ⟨_, rfl, rfl, rfl, ?_⟩
    intro K1347 w Y1348 σ hl0 hS hd hs X hX
    replace hS : Sat w K1347 (flat [_, _, _, _, _, _, _, _, _, _, _, _, _, _, _, _, Y1348]) := Sat.unnil hS
    obtain ⟨_, _, _, hk1351, hv1350, rfl, _⟩ := hd 13 _ rfl (by kernel_rfl)
    have hh1352 : within [(147, (.agg (vv63 x1342).toArray))] σ := ⟨hv1350, trivial⟩
    refine rg_head hh1352 ?_
    have hle := KM.le.refl K1347
    refine s_v (v := (.agg #[(.string (⟨#[119, 97, 115, 116, 101]⟩ : ByteArray)), (.int .i64 x1342.Kind), (.string x1342.Class), (.bool true)])) rfl rfl rfl ?_
    refine s_nil ?_
    exact hX _ _ _ _ _ hh1352 hle ⟨rfl, rfl⟩ hS.nilG
  · refine ⟨_, rfl, rfl, rfl, ?_⟩
    intro K1338 w Y1339 σ hl0 hS hd hs X hX
    replace hS : Sat w K1338 (flat [_, _, _, _, _, _, _, _, _, _, _, _, _, _, _, _, Y1339]) := Sat.unnil hS
    have hh1341 : within [] σ := trivial
    refine rg_head hh1341 ?_
    have hle := KM.le.refl K1338
    refine s_call isf46 hS.nilG (bonsaiseat_typ_spec hx1343) rfl rfl rfl ?_
    rintro _ K1344 C1346 w hk1345 rfl hS
    replace hS := hS.drop1
    refine s_nil ?_
    replace hle := hle.trans hk1345
    exact hX _ _ _ _ _ hh1341 hle ⟨rfl, rfl⟩ hS.nilG
  · refine ⟨_, rfl, rfl, rfl, ?_⟩
    intro K1327 w Y1328 σ hl0 hS hd hs X hX
    replace hS : Sat w K1327 (flat [_, _, _, _, _, _, _, _, _, _, _, _, _, _, _, _, Y1328]) := Sat.unnil hS
    have hh1330 : within [] σ := trivial
    refine rg_head hh1330 ?_
    have hle := KM.le.refl K1327
    refine s_bwc (cs := [(.string (⟨#[74]⟩ : ByteArray))]) hS rfl rfl rfl rfl rfl rfl rfl rfl rfl rfl ?_
    intro b1331 w hS
    have h1333 : OwnS 9 K1327 (.slice (some ⟨b1331, 0, none⟩) 1 1) ([(⟨#[74]⟩ : ByteArray)] : List ByteArray) [(b1331, Cl [(.string (⟨#[74]⟩ : ByteArray))] 9)] := OwnS.lit ⟨[(.string (⟨#[74]⟩ : ByteArray))], _, rfl, rfl, rfl⟩ rfl rfl
    refine s_nil ?_
    exact hX _ _ _ _ _ hh1330 hle ⟨[(b1331, Cl [(.string (⟨#[74]⟩ : ByteArray))] 9)], b1331, rfl, h1333, rfl⟩ hS
  rintro K1477 w _ _ hk1478 hO hS
  obtain ⟨_, _, _, _, _, rfl, rfl, hk1479, ⟨b1475, rfl, rfl⟩, hO⟩ := hO
  obtain ⟨_, _, _, _, _, rfl, rfl, hk1480, ⟨b1463, b1465, b1467, rfl, hr1464, hr1466, hr1468, rfl⟩, hO⟩ := hO
  obtain ⟨_, _, _, _, _, rfl, rfl, hk1481, ⟨C1450, b1451, rfl, h1452, rfl⟩, hO⟩ := hO
  obtain ⟨_, _, _, _, _, rfl, rfl, hk1482, ⟨a1431, c1432, a1434, c1435, a1437, c1438, rfl, h1433, h1436, h1439, rfl⟩, hO⟩ := hO
  obtain ⟨_, _, _, _, _, rfl, rfl, hk1483, ⟨rfl, rfl⟩, hO⟩ := hO
  obtain ⟨_, _, _, _, _, rfl, rfl, hk1484, ⟨rfl, rfl⟩, hO⟩ := hO
  obtain ⟨_, _, _, _, _, rfl, rfl, hk1485, ⟨rfl, rfl⟩, hO⟩ := hO
  obtain ⟨_, _, _, _, _, rfl, rfl, hk1486, ⟨rfl, rfl⟩, hO⟩ := hO
  obtain ⟨_, _, _, _, _, rfl, rfl, hk1487, ⟨rfl, rfl⟩, hO⟩ := hO
  obtain ⟨_, _, _, _, _, rfl, rfl, hk1488, ⟨C1380, b1381, rfl, h1382, rfl⟩, hO⟩ := hO
  obtain ⟨_, _, _, _, _, rfl, rfl, hk1489, ⟨rfl, rfl⟩, hO⟩ := hO
  obtain ⟨_, _, _, _, _, rfl, rfl, hk1490, ⟨rfl, rfl⟩, hO⟩ := hO
  obtain ⟨_, _, _, _, _, rfl, rfl, hk1491, ⟨rfl, rfl⟩, hO⟩ := hO
  obtain ⟨_, _, _, _, _, rfl, rfl, hk1492, ⟨rfl, rfl⟩, hO⟩ := hO
  obtain ⟨_, _, _, _, _, rfl, rfl, hk1493, ⟨C1335, b1336, rfl, h1337, rfl⟩, hO⟩ := hO
  obtain ⟨rfl, rfl⟩ := hO
  obtain rfl := lnk_sl (show some _ = some _ from hr1464)
  obtain rfl := lnk_sl (show some _ = some _ from hr1466)
  obtain rfl := lnk_sl (show some _ = some _ from hr1468)
  replace hS : Sat w K1477 (flat [[(b1475, Cl [(.string ByteArray.empty), (.string ByteArray.empty), (.slice none 0 0), (.int .i64 0), (.slice none 0 0), (.slice none 0 0)] 81)], C1450, C1380, C1335, [(b3, Cl (vv68 p1) 68)], [(b29, Cl [(.string (⟨#[66, 97, 115, 101]⟩ : ByteArray)), (.string (⟨#[79, 98, 106, 101, 99, 116]⟩ : ByteArray)), (.slice a96 ([(⟨#[73]⟩ : ByteArray)].length) c97), (.int .i64 2), (.slice a101 ([(api_Field.mk (⟨#[120]⟩ : ByteArray) (api_Type.mk x7.Kind x7.Class) false), (api_Field.mk (⟨#[110, 101, 120, 116]⟩ : ByteArray) (api_Type.mk x12.Kind x12.Class) false), (api_Field.mk (⟨#[119]⟩ : ByteArray) (api_Type.mk x17.Kind x17.Class) false), (api_Field.mk (⟨#[117, 110, 117, 115, 101, 100]⟩ : ByteArray) (api_Type.mk x22.Kind x22.Class) false)].length) c102), (.slice a197 s201.length c198)] 81)], C1131, C1136, C1141, [(b370, Cl [(.string (⟨#[65]⟩ : ByteArray)), (.string (⟨#[66, 97, 115, 101]⟩ : ByteArray)), (.slice none 0 0), (.int .i64 1), (.slice (some ⟨b298, 0, none⟩) ([(api_Field.mk (⟨#[99, 111, 117, 110, 116]⟩ : ByteArray) (api_Type.mk x276.Kind x276.Class) true)].length) 1), (.slice a447 s451.length c448)] 81)], C1146, C1151, [(b508, Cl [(.string (⟨#[66]⟩ : ByteArray)), (.string (⟨#[65]⟩ : ByteArray)), (.slice none 0 0), (.int .i64 x499), (.slice none 0 0), (.slice a773 s777.length c774)] 81)], C1156, [(b900, Cl [(.string (⟨#[77, 105, 100]⟩ : ByteArray)), (.string (⟨#[66, 97, 115, 101]⟩ : ByteArray)), (.slice a936 s945.length c937), (.int .i64 2), (.slice a941 ([(api_Field.mk (⟨#[109]⟩ : ByteArray) (api_Type.mk x893.Kind x893.Class) false)].length) c942), (.slice none 0 0)] 81)], C1161, C1166, [(b1009, Cl [(.string (⟨#[67]⟩ : ByteArray)), (.string (⟨#[77, 105, 100]⟩ : ByteArray)), (.slice none 0 0), (.int .i64 1), (.slice none 0 0), (.slice a1169 s1173.length c1170)] 81)], C1171, L]) := hS.sel [0, 2, 9, 14, 15, 16, 17, 18, 19, 20, 21, 22, 23, 24, 25, 26, 27, 28, 29, 30] rfl
  refine At.weaken [(1, (.pointer (some ⟨b3, 0, none⟩))), (4, (.pointer (some ⟨b29, 0, none⟩))), (5, (.pointer (some ⟨b370, 0, none⟩))), (6, (.pointer (some ⟨b508, 0, none⟩))), (7, (.pointer (some ⟨b900, 0, none⟩))), (8, (.pointer (some ⟨b1009, 0, none⟩))), (9, (.pointer (some ⟨b1475, 0, none⟩))), (159, (.agg #[(.string (⟨#[68]⟩ : ByteArray)), (.string (⟨#[66, 97, 115, 101]⟩ : ByteArray)), (.slice (some ⟨b1336, 0, none⟩) 1 1), (.int .i64 3), (.slice (some ⟨b1381, 0, none⟩) 2 2), (.slice (some ⟨b1451, 0, none⟩) 1 1)]))] ⟨rfl, rfl, rfl, rfl, rfl, rfl, rfl, rfl, trivial⟩ ?_
  refine d_on [] [] hS ?_
  refine d_op 15 rfl (by kernel_rfl) (by kernel_rfl) (fun X hX => ?_)
  have hlq := KM.le.refl K1477
  refine s_st (cs' := [(.string (⟨#[68]⟩ : ByteArray)), (.string (⟨#[66, 97, 115, 101]⟩ : ByteArray)), (.slice (some ⟨b1336, 0, none⟩) 1 1), (.int .i64 3), (.slice (some ⟨b1381, 0, none⟩) 2 2), (.slice (some ⟨b1451, 0, none⟩) 1 1)]) 0 hS rfl rfl rfl rfl rfl ?_
  intro w hS
  replace hS : Sat w _ (flat [_, _, _, _, _, _, _, _, _, _, _, _, _, _, _, _, _, _, _, _]) := hS
  refine d_go [] [] [] [] hX hS hlq rfl rfl trivial ?_
  refine d_end (by kernel_rfl) ?_
  refine qn ?_
  obtain ⟨s1597, hst1598, hf⟩ := bs hf
  refine s_cut (fun τ w => ∃ (K1536 : KM) (C1540 : Chunks) (C1545 : Chunks) (C1550 : Chunks) (C1555 : Chunks) (C1560 : Chunks) (C1565 : Chunks) (C1570 : Chunks) (C1575 : Chunks) (C1580 : Chunks) (C1585 : Chunks) (C1590 : Chunks) (a1593 : Option Addr) (c1594 : Nat) (C1595 : Chunks), τ = [(4, (.pointer (some ⟨b29, 0, none⟩))), (5, (.pointer (some ⟨b370, 0, none⟩))), (6, (.pointer (some ⟨b508, 0, none⟩))), (7, (.pointer (some ⟨b900, 0, none⟩))), (8, (.pointer (some ⟨b1009, 0, none⟩))), (9, (.pointer (some ⟨b1475, 0, none⟩)))] ∧ KM.le K K1536 ∧ OwnS 9 K1536 (.slice a96 ([(⟨#[73]⟩ : ByteArray)].length) c97) [(⟨#[73]⟩ : ByteArray)] C1540 ∧ OwnS 97 K1536 (.slice a101 ([(api_Field.mk (⟨#[120]⟩ : ByteArray) (api_Type.mk x7.Kind x7.Class) false), (api_Field.mk (⟨#[110, 101, 120, 116]⟩ : ByteArray) (api_Type.mk x12.Kind x12.Class) false), (api_Field.mk (⟨#[119]⟩ : ByteArray) (api_Type.mk x17.Kind x17.Class) false), (api_Field.mk (⟨#[117, 110, 117, 115, 101, 100]⟩ : ByteArray) (api_Type.mk x22.Kind x22.Class) false)].length) c102) [(api_Field.mk (⟨#[120]⟩ : ByteArray) (api_Type.mk x7.Kind x7.Class) false), (api_Field.mk (⟨#[110, 101, 120, 116]⟩ : ByteArray) (api_Type.mk x12.Kind x12.Class) false), (api_Field.mk (⟨#[119]⟩ : ByteArray) (api_Type.mk x17.Kind x17.Class) false), (api_Field.mk (⟨#[117, 110, 117, 115, 101, 100]⟩ : ByteArray) (api_Type.mk x22.Kind x22.Class) false)] C1545 ∧ OwnS 67 K1536 (.slice a197 s201.length c198) s201 C1550 ∧ OwnS 97 K1536 (.slice (some ⟨b298, 0, none⟩) ([(api_Field.mk (⟨#[99, 111, 117, 110, 116]⟩ : ByteArray) (api_Type.mk x276.Kind x276.Class) true)].length) 1) [(api_Field.mk (⟨#[99, 111, 117, 110, 116]⟩ : ByteArray) (api_Type.mk x276.Kind x276.Class) true)] C1555 ∧ OwnS 67 K1536 (.slice a447 s451.length c448) s451 C1560 ∧ OwnS 67 K1536 (.slice a773 s777.length c774) s777 C1565 ∧ OwnS 9 K1536 (.slice a936 s945.length c937) s945 C1570 ∧ OwnS 97 K1536 (.slice a941 ([(api_Field.mk (⟨#[109]⟩ : ByteArray) (api_Type.mk x893.Kind x893.Class) false)].length) c942) [(api_Field.mk (⟨#[109]⟩ : ByteArray) (api_Type.mk x893.Kind x893.Class) false)] C1575 ∧ OwnS 67 K1536 (.slice a1169 s1173.length c1170) s1173 C1580 ∧ OwnS 9 K1536 (.slice (some ⟨b1336, 0, none⟩) (([(⟨#[74]⟩ : ByteArray)] : List ByteArray).length) 1) ([(⟨#[74]⟩ : ByteArray)] : List ByteArray) C1585 ∧ OwnS 97 K1536 (.slice (some ⟨b1381, 0, none⟩) ([(api_Field.mk (⟨#[119, 97, 115, 116, 101]⟩ : ByteArray) (api_Type.mk x1342.Kind x1342.Class) true), (api_Field.mk (⟨#[120]⟩ : ByteArray) (api_Type.mk x1357.Kind x1357.Class) false)].length) 2) [(api_Field.mk (⟨#[119, 97, 115, 116, 101]⟩ : ByteArray) (api_Type.mk x1342.Kind x1342.Class) true), (api_Field.mk (⟨#[120]⟩ : ByteArray) (api_Type.mk x1357.Kind x1357.Class) false)] C1590 ∧ OwnS 67 K1536 (.slice a1593 s1597.length c1594) s1597 C1595 ∧ Sat w K1536 (flat [[(b29, Cl [(.string (⟨#[66, 97, 115, 101]⟩ : ByteArray)), (.string (⟨#[79, 98, 106, 101, 99, 116]⟩ : ByteArray)), (.slice a96 ([(⟨#[73]⟩ : ByteArray)].length) c97), (.int .i64 2), (.slice a101 ([(api_Field.mk (⟨#[120]⟩ : ByteArray) (api_Type.mk x7.Kind x7.Class) false), (api_Field.mk (⟨#[110, 101, 120, 116]⟩ : ByteArray) (api_Type.mk x12.Kind x12.Class) false), (api_Field.mk (⟨#[119]⟩ : ByteArray) (api_Type.mk x17.Kind x17.Class) false), (api_Field.mk (⟨#[117, 110, 117, 115, 101, 100]⟩ : ByteArray) (api_Type.mk x22.Kind x22.Class) false)].length) c102), (.slice a197 s201.length c198)] 81)], C1540, C1545, C1550, [(b370, Cl [(.string (⟨#[65]⟩ : ByteArray)), (.string (⟨#[66, 97, 115, 101]⟩ : ByteArray)), (.slice none 0 0), (.int .i64 1), (.slice (some ⟨b298, 0, none⟩) ([(api_Field.mk (⟨#[99, 111, 117, 110, 116]⟩ : ByteArray) (api_Type.mk x276.Kind x276.Class) true)].length) 1), (.slice a447 s451.length c448)] 81)], C1555, C1560, [(b508, Cl [(.string (⟨#[66]⟩ : ByteArray)), (.string (⟨#[65]⟩ : ByteArray)), (.slice none 0 0), (.int .i64 x499), (.slice none 0 0), (.slice a773 s777.length c774)] 81)], C1565, [(b900, Cl [(.string (⟨#[77, 105, 100]⟩ : ByteArray)), (.string (⟨#[66, 97, 115, 101]⟩ : ByteArray)), (.slice a936 s945.length c937), (.int .i64 2), (.slice a941 ([(api_Field.mk (⟨#[109]⟩ : ByteArray) (api_Type.mk x893.Kind x893.Class) false)].length) c942), (.slice none 0 0)] 81)], C1570, C1575, [(b1009, Cl [(.string (⟨#[67]⟩ : ByteArray)), (.string (⟨#[77, 105, 100]⟩ : ByteArray)), (.slice none 0 0), (.int .i64 1), (.slice none 0 0), (.slice a1169 s1173.length c1170)] 81)], C1580, [(b1475, Cl [(.string (⟨#[68]⟩ : ByteArray)), (.string (⟨#[66, 97, 115, 101]⟩ : ByteArray)), (.slice (some ⟨b1336, 0, none⟩) (([(⟨#[74]⟩ : ByteArray)] : List ByteArray).length) 1), (.int .i64 3), (.slice (some ⟨b1381, 0, none⟩) ([(api_Field.mk (⟨#[119, 97, 115, 116, 101]⟩ : ByteArray) (api_Type.mk x1342.Kind x1342.Class) true), (api_Field.mk (⟨#[120]⟩ : ByteArray) (api_Type.mk x1357.Kind x1357.Class) false)].length) 2), (.slice a1593 s1597.length c1594)] 81)], C1585, C1590, C1595, L])) (fun J hJ => ?_) ?_
  · replace hf := hst1598
    refine s_seq (s_reg ?_)
    refine s_v rfl rfl rfl ?_
    refine s_ld 4 hS rfl rfl rfl rfl rfl ?_
    iterate 2 refine s_v rfl rfl rfl ?_
    refine s_nil (qn ?_)
    replace hS : Sat w K1477 (flat [_, _, _, _, _, _, _, _, _, _, _, _, _, _, _, _, _, _, _]) := (hS.sel [0, 1, 2, 3, 5, 6, 7, 8, 9, 10, 11, 12, 13, 14, 15, 16, 17, 18, 19] rfl)
    refine s_if rfl (fun hc => ?_) (fun hc => ?_)
    · replace hf := bif_t hc hf
      refine d_start [] [(6, [0])] hS ?_
      intro w hS
      refine d_v 0 (fun _ _ _ _ _ h => h) [] hS rfl rfl rfl (by kernel_rfl) rfl rfl ?_
      refine d_ldh 1 0 (fun _ _ _ _ _ h => h) [] hS rfl rfl rfl (by kernel_rfl) rfl rfl (by kernel_rfl) rfl rfl ?_
      refine d_op 2 rfl (by kernel_rfl) (by kernel_rfl) (fun X hX => ?_)
      have hlq := KM.le.refl K1477
      obtain ⟨x1620, hx1621, hf⟩ := bs hf
      refine s_call isf47 hS.nilG (bonsaiseat_clinit_spec hx1621) rfl rfl rfl ?_
      rintro _ K1622 C1624 w hk1623 ⟨a1625, c1626, a1628, c1629, a1631, c1632, rfl, h1627, h1630, h1633⟩ hS
      replace hS := hS.drop1
      replace hlq := hlq.trans hk1623
      refine d_go [] [] [(6, [0])] [some 0] hX hS hlq rfl rfl ⟨rfl, trivial⟩ ?_
      refine d_op 3 rfl (by kernel_rfl) (by kernel_rfl) (fun X hX => ?_)
      have hlq := KM.le.refl K1622
      refine s_bwc (cs := (vv67 x1620 a1625 c1626 a1628 c1629 a1631 c1632)) hS rfl rfl rfl rfl rfl rfl rfl rfl rfl rfl ?_
      intro b1634 w hS
      refine d_go [] [] [(6, [1])] [some 0] hX hS hlq rfl rfl ⟨rfl, trivial⟩ ?_
      refine d_op 4 rfl (by kernel_rfl) (by kernel_rfl) (fun X hX => ?_)
      have hlq := KM.le.refl K1622
      obtain ⟨hm1636, hf⟩ := gs hf
      replace h1452 := h1452.mono (hk1481.trans hk1623)
      refine s_appv (e := 67) (ys := ([x1620] : List api_Method)) 2 0 hS rfl h1452 rfl ⟨(vv67 x1620 a1625 c1626 a1628 c1629 a1631 c1632), _, rfl, ⟨a1625, c1626, a1628, c1629, a1631, c1632, rfl, h1627, h1630, h1633⟩, rfl⟩ rfl rfl rfl rfl rfl rfl rfl rfl (roomy_le hm1636) rfl rfl rfl ?_
      intro a1637 c1638 w C1639 h1640 hS
      replace hS : Sat w _ (flat [_, _, _, _, _, _, _, _, _, _, _, _, _, _, _, _, _, _, _, _]) := hS
      refine d_go [] [] [(6, [1])] [some 0] hX hS hlq rfl rfl ⟨rfl, trivial⟩ ?_
      refine d_v 5 (fun _ _ _ _ _ h => h) [] hS rfl rfl rfl (by kernel_rfl) rfl rfl ?_
      refine d_op 6 rfl (by kernel_rfl) (by kernel_rfl) (fun X hX => ?_)
      have hlq := KM.le.refl K1622
      refine s_st (cs' := [(.string (⟨#[68]⟩ : ByteArray)), (.string (⟨#[66, 97, 115, 101]⟩ : ByteArray)), (.slice (some ⟨b1336, 0, none⟩) 1 1), (.int .i64 3), (.slice (some ⟨b1381, 0, none⟩) 2 2), (.slice a1637 (([x1417] ++ ([x1620] : List api_Method)).length) c1638)]) 1 hS rfl rfl rfl rfl rfl ?_
      intro w hS
      replace hS : Sat w _ (flat [_, _, _, _, _, _, _, _, _, _, _, _, _, _, _, _, _, _, _, _]) := hS
      refine d_go [] [1] [] [none] hX hS hlq rfl rfl ⟨rfl, trivial⟩ ?_
      refine d_end (by kernel_rfl) ?_
      refine qn ?_
      have hq := Option.some.inj hf
      subst hq
      replace h1128 := h1128.mono (hk1478.trans hk1623)
      replace h1133 := h1133.mono (hk1478.trans hk1623)
      replace h1138 := h1138.mono (hk1478.trans hk1623)
      replace h1143 := h1143.mono (hk1478.trans hk1623)
      replace h1148 := h1148.mono (hk1478.trans hk1623)
      replace h1153 := h1153.mono (hk1478.trans hk1623)
      replace h1158 := h1158.mono (hk1478.trans hk1623)
      replace h1163 := h1163.mono (hk1478.trans hk1623)
      replace h1168 := h1168.mono (hk1478.trans hk1623)
      replace hle := hle.trans (hk1478.trans hk1623)
      replace h1382 := h1382.mono (hk1488.trans hk1623)
      replace h1337 := h1337.mono (hk1493.trans hk1623)
      refine s_join hJ _ ⟨K1622, C1131, C1136, C1141, C1146, C1151, C1156, C1161, C1166, C1171, C1335, C1380, a1637, c1638, C1639, rfl, hle, h1128, h1133, h1138, h1143, h1148, h1153, h1158, h1163, h1168, h1337, h1382, h1640, (hS.sel [5, 6, 7, 8, 9, 10, 11, 12, 13, 14, 15, 16, 17, 18, 1, 4, 3, 2, 19] rfl)⟩ ⟨rfl, rfl, rfl, rfl, rfl, rfl, trivial⟩
    replace hf := bif_f hc hf
    refine s_skip (qn ?_)
    have hq := Option.some.inj hf
    subst hq
    replace h1128 := h1128.mono hk1478
    replace h1133 := h1133.mono hk1478
    replace h1138 := h1138.mono hk1478
    replace h1143 := h1143.mono hk1478
    replace h1148 := h1148.mono hk1478
    replace h1153 := h1153.mono hk1478
    replace h1158 := h1158.mono hk1478
    replace h1163 := h1163.mono hk1478
    replace h1168 := h1168.mono hk1478
    replace hle := hle.trans hk1478
    replace h1452 := h1452.mono hk1481
    replace h1382 := h1382.mono hk1488
    replace h1337 := h1337.mono hk1493
    refine s_join hJ _ ⟨K1477, C1131, C1136, C1141, C1146, C1151, C1156, C1161, C1166, C1171, C1335, C1380, (some ⟨b1451, 0, none⟩), 1, C1450, rfl, hle, h1128, h1133, h1138, h1143, h1148, h1153, h1158, h1163, h1168, h1337, h1382, h1452, (hS.sel [4, 5, 6, 7, 8, 9, 10, 11, 12, 13, 14, 15, 16, 17, 0, 3, 2, 1, 18] rfl)⟩ ⟨rfl, rfl, rfl, rfl, rfl, rfl, trivial⟩
  rintro _ w ⟨K1536, C1540, C1545, C1550, C1555, C1560, C1565, C1570, C1575, C1580, C1585, C1590, a1593, c1594, C1595, rfl, hle, h1537, h1542, h1547, h1552, h1557, h1562, h1567, h1572, h1577, h1582, h1587, h1592, hS⟩
  refine s_seq (s_reg ?_)
  refine s_ld (v := (.agg #[(.string (⟨#[66, 97, 115, 101]⟩ : ByteArray)), (.string (⟨#[79, 98, 106, 101, 99, 116]⟩ : ByteArray)), (.slice a96 ([(⟨#[73]⟩ : ByteArray)].length) c97), (.int .i64 2), (.slice a101 ([(api_Field.mk (⟨#[120]⟩ : ByteArray) (api_Type.mk x7.Kind x7.Class) false), (api_Field.mk (⟨#[110, 101, 120, 116]⟩ : ByteArray) (api_Type.mk x12.Kind x12.Class) false), (api_Field.mk (⟨#[119]⟩ : ByteArray) (api_Type.mk x17.Kind x17.Class) false), (api_Field.mk (⟨#[117, 110, 117, 115, 101, 100]⟩ : ByteArray) (api_Type.mk x22.Kind x22.Class) false)].length) c102), (.slice a197 s201.length c198)])) 0 hS rfl rfl rfl rfl rfl ?_
  refine s_ld (v := (.agg #[(.string (⟨#[65]⟩ : ByteArray)), (.string (⟨#[66, 97, 115, 101]⟩ : ByteArray)), (.slice none 0 0), (.int .i64 1), (.slice (some ⟨b298, 0, none⟩) ([(api_Field.mk (⟨#[99, 111, 117, 110, 116]⟩ : ByteArray) (api_Type.mk x276.Kind x276.Class) true)].length) 1), (.slice a447 s451.length c448)])) 4 hS rfl rfl rfl rfl rfl ?_
  refine s_ld (v := (.agg #[(.string (⟨#[66]⟩ : ByteArray)), (.string (⟨#[65]⟩ : ByteArray)), (.slice none 0 0), (.int .i64 x499), (.slice none 0 0), (.slice a773 s777.length c774)])) 7 hS rfl rfl rfl rfl rfl ?_
  refine s_ld (v := (.agg #[(.string (⟨#[77, 105, 100]⟩ : ByteArray)), (.string (⟨#[66, 97, 115, 101]⟩ : ByteArray)), (.slice a936 s945.length c937), (.int .i64 2), (.slice a941 ([(api_Field.mk (⟨#[109]⟩ : ByteArray) (api_Type.mk x893.Kind x893.Class) false)].length) c942), (.slice none 0 0)])) 9 hS rfl rfl rfl rfl rfl ?_
  refine s_ld (v := (.agg #[(.string (⟨#[67]⟩ : ByteArray)), (.string (⟨#[77, 105, 100]⟩ : ByteArray)), (.slice none 0 0), (.int .i64 1), (.slice none 0 0), (.slice a1169 s1173.length c1170)])) 12 hS rfl rfl rfl rfl rfl ?_
  refine s_ld (v := (.agg #[(.string (⟨#[68]⟩ : ByteArray)), (.string (⟨#[66, 97, 115, 101]⟩ : ByteArray)), (.slice (some ⟨b1336, 0, none⟩) (([(⟨#[74]⟩ : ByteArray)] : List ByteArray).length) 1), (.int .i64 3), (.slice (some ⟨b1381, 0, none⟩) ([(api_Field.mk (⟨#[119, 97, 115, 116, 101]⟩ : ByteArray) (api_Type.mk x1342.Kind x1342.Class) true), (api_Field.mk (⟨#[120]⟩ : ByteArray) (api_Type.mk x1357.Kind x1357.Class) false)].length) 2), (.slice a1593 s1597.length c1594)])) 14 hS rfl rfl rfl rfl rfl ?_
  refine s_bwc (cs := [(.string (⟨#[66, 97, 115, 101]⟩ : ByteArray)), (.string (⟨#[79, 98, 106, 101, 99, 116]⟩ : ByteArray)), (.slice a96 ([(⟨#[73]⟩ : ByteArray)].length) c97), (.int .i64 2), (.slice a101 ([(api_Field.mk (⟨#[120]⟩ : ByteArray) (api_Type.mk x7.Kind x7.Class) false), (api_Field.mk (⟨#[110, 101, 120, 116]⟩ : ByteArray) (api_Type.mk x12.Kind x12.Class) false), (api_Field.mk (⟨#[119]⟩ : ByteArray) (api_Type.mk x17.Kind x17.Class) false), (api_Field.mk (⟨#[117, 110, 117, 115, 101, 100]⟩ : ByteArray) (api_Type.mk x22.Kind x22.Class) false)].length) c102), (.slice a197 s201.length c198), (.string (⟨#[65]⟩ : ByteArray)), (.string (⟨#[66, 97, 115, 101]⟩ : ByteArray)), (.slice none 0 0), (.int .i64 1), (.slice (some ⟨b298, 0, none⟩) ([(api_Field.mk (⟨#[99, 111, 117, 110, 116]⟩ : ByteArray) (api_Type.mk x276.Kind x276.Class) true)].length) 1), (.slice a447 s451.length c448), (.string (⟨#[66]⟩ : ByteArray)), (.string (⟨#[65]⟩ : ByteArray)), (.slice none 0 0), (.int .i64 x499), (.slice none 0 0), (.slice a773 s777.length c774), (.string (⟨#[77, 105, 100]⟩ : ByteArray)), (.string (⟨#[66, 97, 115, 101]⟩ : ByteArray)), (.slice a936 s945.length c937), (.int .i64 2), (.slice a941 ([(api_Field.mk (⟨#[109]⟩ : ByteArray) (api_Type.mk x893.Kind x893.Class) false)].length) c942), (.slice none 0 0), (.string (⟨#[67]⟩ : ByteArray)), (.string (⟨#[77, 105, 100]⟩ : ByteArray)), (.slice none 0 0), (.int .i64 1), (.slice none 0 0), (.slice a1169 s1173.length c1170), (.string (⟨#[68]⟩ : ByteArray)), (.string (⟨#[66, 97, 115, 101]⟩ : ByteArray)), (.slice (some ⟨b1336, 0, none⟩) (([(⟨#[74]⟩ : ByteArray)] : List ByteArray).length) 1), (.int .i64 3), (.slice (some ⟨b1381, 0, none⟩) ([(api_Field.mk (⟨#[119, 97, 115, 116, 101]⟩ : ByteArray) (api_Type.mk x1342.Kind x1342.Class) true), (api_Field.mk (⟨#[120]⟩ : ByteArray) (api_Type.mk x1357.Kind x1357.Class) false)].length) 2), (.slice a1593 s1597.length c1594)]) hS rfl rfl rfl rfl rfl rfl rfl rfl rfl rfl ?_
  intro b1641 w hS
  refine s_v rfl rfl rfl ?_
  refine s_nil (qn ?_)
  replace hS : Sat w K1536 (flat [_, _, _, _, _, _, _, _, _, _, _, _, _, _]) := (hS.sel [0, 2, 3, 4, 6, 7, 9, 11, 12, 14, 16, 17, 18, 19] rfl)
  refine s_rets ?_
  obtain ⟨K1643, hk1644, h1645, hS⟩ := h1537.freeze (hS.sel [1, 0, 2, 3, 4, 5, 6, 7, 8, 9, 10, 11, 12, 13] rfl)
  replace hS : Sat w _ (flat [_, _, _, _, _, _, _, _, _, _, _, _, _]) := hS
  replace h1542 := h1542.mono hk1644
  obtain ⟨K1646, hk1647, h1648, hS⟩ := h1542.freeze (hS.sel [1, 0, 2, 3, 4, 5, 6, 7, 8, 9, 10, 11, 12] rfl)
  replace hS : Sat w _ (flat [_, _, _, _, _, _, _, _, _, _, _, _]) := hS
  replace h1547 := h1547.mono (hk1644.trans hk1647)
  obtain ⟨K1649, hk1650, h1651, hS⟩ := h1547.freeze (hS.sel [1, 0, 2, 3, 4, 5, 6, 7, 8, 9, 10, 11] rfl)
  replace hS : Sat w _ (flat [_, _, _, _, _, _, _, _, _, _, _]) := hS
  replace h1552 := h1552.mono ((hk1644.trans hk1647).trans hk1650)
  obtain ⟨K1652, hk1653, h1654, hS⟩ := h1552.freeze (hS.sel [1, 0, 2, 3, 4, 5, 6, 7, 8, 9, 10] rfl)
  replace hS : Sat w _ (flat [_, _, _, _, _, _, _, _, _, _]) := hS
  have hkk7 := ((hk1644.trans hk1647).trans hk1650).trans hk1653
  replace h1557 := h1557.mono hkk7
  obtain ⟨K1655, hk1656, h1657, hS⟩ := h1557.freeze (hS.sel [1, 0, 2, 3, 4, 5, 6, 7, 8, 9] rfl)
  replace hS : Sat w _ (flat [_, _, _, _, _, _, _, _, _]) := hS
  have hkk8 := hkk7.trans hk1656
  replace h1562 := h1562.mono hkk8
  obtain ⟨K1658, hk1659, h1660, hS⟩ := h1562.freeze (hS.sel [1, 0, 2, 3, 4, 5, 6, 7, 8] rfl)
  replace hS : Sat w _ (flat [_, _, _, _, _, _, _, _]) := hS
  have hkk9 := hkk8.trans hk1659
  replace h1567 := h1567.mono hkk9
  obtain ⟨K1661, hk1662, h1663, hS⟩ := h1567.freeze (hS.sel [1, 0, 2, 3, 4, 5, 6, 7] rfl)
  replace hS : Sat w _ (flat [_, _, _, _, _, _, _]) := hS
  have hkk10 := hkk9.trans hk1662
  replace h1572 := h1572.mono hkk10
  obtain ⟨K1664, hk1665, h1666, hS⟩ := h1572.freeze (hS.sel [1, 0, 2, 3, 4, 5, 6] rfl)
  replace hS : Sat w _ (flat [_, _, _, _, _, _]) := hS
  have hkk11 := hkk10.trans hk1665
  replace h1577 := h1577.mono hkk11
  obtain ⟨K1667, hk1668, h1669, hS⟩ := h1577.freeze (hS.sel [1, 0, 2, 3, 4, 5] rfl)
  replace hS : Sat w _ (flat [_, _, _, _, _]) := hS
  have hkk12 := hkk11.trans hk1668
  replace h1582 := h1582.mono hkk12
  obtain ⟨K1670, hk1671, h1672, hS⟩ := h1582.freeze (hS.sel [1, 0, 2, 3, 4] rfl)
  replace hS : Sat w _ (flat [_, _, _, _]) := hS
  have hkk13 := hkk12.trans hk1671
  replace h1587 := h1587.mono hkk13
  obtain ⟨K1673, hk1674, h1675, hS⟩ := h1587.freeze (hS.sel [1, 0, 2, 3] rfl)
  replace hS : Sat w _ (flat [_, _, _]) := hS
  have hkk14 := hkk13.trans hk1674
  replace h1592 := h1592.mono hkk14
  obtain ⟨K1676, hk1677, h1678, hS⟩ := h1592.freeze (hS.sel [1, 0, 2] rfl)
  replace hS : Sat w _ (flat [_, _]) := hS
  have hkk15 := (((((((((hk1647.trans hk1650).trans hk1653).trans hk1656).trans hk1659).trans hk1662).trans hk1665).trans hk1668).trans hk1671).trans hk1674).trans hk1677
  replace h1645 := h1645.mono hkk15
  have hkk16 := ((((((((hk1650.trans hk1653).trans hk1656).trans hk1659).trans hk1662).trans hk1665).trans hk1668).trans hk1671).trans hk1674).trans hk1677
  replace h1648 := h1648.mono hkk16
  have hkk17 := (((((((hk1653.trans hk1656).trans hk1659).trans hk1662).trans hk1665).trans hk1668).trans hk1671).trans hk1674).trans hk1677
  replace h1651 := h1651.mono hkk17
  have hkk18 := ((((((hk1656.trans hk1659).trans hk1662).trans hk1665).trans hk1668).trans hk1671).trans hk1674).trans hk1677
  replace h1654 := h1654.mono hkk18
  have hkk19 := (((((hk1659.trans hk1662).trans hk1665).trans hk1668).trans hk1671).trans hk1674).trans hk1677
  replace h1657 := h1657.mono hkk19
  have hkk20 := ((((hk1662.trans hk1665).trans hk1668).trans hk1671).trans hk1674).trans hk1677
  replace h1660 := h1660.mono hkk20
  have hkk21 := (((hk1665.trans hk1668).trans hk1671).trans hk1674).trans hk1677
  replace h1663 := h1663.mono hkk21
  have hkk22 := ((hk1668.trans hk1671).trans hk1674).trans hk1677
  replace h1666 := h1666.mono hkk22
  replace h1669 := h1669.mono ((hk1671.trans hk1674).trans hk1677)
  replace h1672 := h1672.mono (hk1674.trans hk1677)
  replace h1675 := h1675.mono hk1677
  have h1679 : OwnS 81 K1676 (.slice (some ⟨b1641, 0, none⟩) 6 6) [(api_Class.mk (⟨#[66, 97, 115, 101]⟩ : ByteArray) (⟨#[79, 98, 106, 101, 99, 116]⟩ : ByteArray) [(⟨#[73]⟩ : ByteArray)] 2 [(api_Field.mk (⟨#[120]⟩ : ByteArray) (api_Type.mk x7.Kind x7.Class) false), (api_Field.mk (⟨#[110, 101, 120, 116]⟩ : ByteArray) (api_Type.mk x12.Kind x12.Class) false), (api_Field.mk (⟨#[119]⟩ : ByteArray) (api_Type.mk x17.Kind x17.Class) false), (api_Field.mk (⟨#[117, 110, 117, 115, 101, 100]⟩ : ByteArray) (api_Type.mk x22.Kind x22.Class) false)] s201), (api_Class.mk (⟨#[65]⟩ : ByteArray) (⟨#[66, 97, 115, 101]⟩ : ByteArray) [] 1 [(api_Field.mk (⟨#[99, 111, 117, 110, 116]⟩ : ByteArray) (api_Type.mk x276.Kind x276.Class) true)] s451), (api_Class.mk (⟨#[66]⟩ : ByteArray) (⟨#[65]⟩ : ByteArray) [] x499 [] s777), (api_Class.mk (⟨#[77, 105, 100]⟩ : ByteArray) (⟨#[66, 97, 115, 101]⟩ : ByteArray) s945 2 [(api_Field.mk (⟨#[109]⟩ : ByteArray) (api_Type.mk x893.Kind x893.Class) false)] []), (api_Class.mk (⟨#[67]⟩ : ByteArray) (⟨#[77, 105, 100]⟩ : ByteArray) [] 1 [] s1173), (api_Class.mk (⟨#[68]⟩ : ByteArray) (⟨#[66, 97, 115, 101]⟩ : ByteArray) ([(⟨#[74]⟩ : ByteArray)] : List ByteArray) 3 [(api_Field.mk (⟨#[119, 97, 115, 116, 101]⟩ : ByteArray) (api_Type.mk x1342.Kind x1342.Class) true), (api_Field.mk (⟨#[120]⟩ : ByteArray) (api_Type.mk x1357.Kind x1357.Class) false)] s1597)] [(b1641, Cl [(.string (⟨#[66, 97, 115, 101]⟩ : ByteArray)), (.string (⟨#[79, 98, 106, 101, 99, 116]⟩ : ByteArray)), (.slice a96 ([(⟨#[73]⟩ : ByteArray)].length) c97), (.int .i64 2), (.slice a101 ([(api_Field.mk (⟨#[120]⟩ : ByteArray) (api_Type.mk x7.Kind x7.Class) false), (api_Field.mk (⟨#[110, 101, 120, 116]⟩ : ByteArray) (api_Type.mk x12.Kind x12.Class) false), (api_Field.mk (⟨#[119]⟩ : ByteArray) (api_Type.mk x17.Kind x17.Class) false), (api_Field.mk (⟨#[117, 110, 117, 115, 101, 100]⟩ : ByteArray) (api_Type.mk x22.Kind x22.Class) false)].length) c102), (.slice a197 s201.length c198), (.string (⟨#[65]⟩ : ByteArray)), (.string (⟨#[66, 97, 115, 101]⟩ : ByteArray)), (.slice none 0 0), (.int .i64 1), (.slice (some ⟨b298, 0, none⟩) ([(api_Field.mk (⟨#[99, 111, 117, 110, 116]⟩ : ByteArray) (api_Type.mk x276.Kind x276.Class) true)].length) 1), (.slice a447 s451.length c448), (.string (⟨#[66]⟩ : ByteArray)), (.string (⟨#[65]⟩ : ByteArray)), (.slice none 0 0), (.int .i64 x499), (.slice none 0 0), (.slice a773 s777.length c774), (.string (⟨#[77, 105, 100]⟩ : ByteArray)), (.string (⟨#[66, 97, 115, 101]⟩ : ByteArray)), (.slice a936 s945.length c937), (.int .i64 2), (.slice a941 ([(api_Field.mk (⟨#[109]⟩ : ByteArray) (api_Type.mk x893.Kind x893.Class) false)].length) c942), (.slice none 0 0), (.string (⟨#[67]⟩ : ByteArray)), (.string (⟨#[77, 105, 100]⟩ : ByteArray)), (.slice none 0 0), (.int .i64 1), (.slice none 0 0), (.slice a1169 s1173.length c1170), (.string (⟨#[68]⟩ : ByteArray)), (.string (⟨#[66, 97, 115, 101]⟩ : ByteArray)), (.slice (some ⟨b1336, 0, none⟩) (([(⟨#[74]⟩ : ByteArray)] : List ByteArray).length) 1), (.int .i64 3), (.slice (some ⟨b1381, 0, none⟩) ([(api_Field.mk (⟨#[119, 97, 115, 116, 101]⟩ : ByteArray) (api_Type.mk x1342.Kind x1342.Class) true), (api_Field.mk (⟨#[120]⟩ : ByteArray) (api_Type.mk x1357.Kind x1357.Class) false)].length) 2), (.slice a1593 s1597.length c1594)] 81)] := OwnS.lit ⟨[(.string (⟨#[66, 97, 115, 101]⟩ : ByteArray)), (.string (⟨#[79, 98, 106, 101, 99, 116]⟩ : ByteArray)), (.slice a96 ([(⟨#[73]⟩ : ByteArray)].length) c97), (.int .i64 2), (.slice a101 ([(api_Field.mk (⟨#[120]⟩ : ByteArray) (api_Type.mk x7.Kind x7.Class) false), (api_Field.mk (⟨#[110, 101, 120, 116]⟩ : ByteArray) (api_Type.mk x12.Kind x12.Class) false), (api_Field.mk (⟨#[119]⟩ : ByteArray) (api_Type.mk x17.Kind x17.Class) false), (api_Field.mk (⟨#[117, 110, 117, 115, 101, 100]⟩ : ByteArray) (api_Type.mk x22.Kind x22.Class) false)].length) c102), (.slice a197 s201.length c198)], _, rfl, ⟨a96, c97, a101, c102, a197, c198, rfl, h1645, h1648, h1651⟩, ⟨[(.string (⟨#[65]⟩ : ByteArray)), (.string (⟨#[66, 97, 115, 101]⟩ : ByteArray)), (.slice none 0 0), (.int .i64 1), (.slice (some ⟨b298, 0, none⟩) ([(api_Field.mk (⟨#[99, 111, 117, 110, 116]⟩ : ByteArray) (api_Type.mk x276.Kind x276.Class) true)].length) 1), (.slice a447 s451.length c448)], _, rfl, ⟨none, 0, (some ⟨b298, 0, none⟩), 1, a447, c448, rfl, SlK.nil, h1654, h1657⟩, ⟨[(.string (⟨#[66]⟩ : ByteArray)), (.string (⟨#[65]⟩ : ByteArray)), (.slice none 0 0), (.int .i64 x499), (.slice none 0 0), (.slice a773 s777.length c774)], _, rfl, ⟨none, 0, none, 0, a773, c774, rfl, SlK.nil, SlK.nil, h1660⟩, ⟨[(.string (⟨#[77, 105, 100]⟩ : ByteArray)), (.string (⟨#[66, 97, 115, 101]⟩ : ByteArray)), (.slice a936 s945.length c937), (.int .i64 2), (.slice a941 ([(api_Field.mk (⟨#[109]⟩ : ByteArray) (api_Type.mk x893.Kind x893.Class) false)].length) c942), (.slice none 0 0)], _, rfl, ⟨a936, c937, a941, c942, none, 0, rfl, h1663, h1666, SlK.nil⟩, ⟨[(.string (⟨#[67]⟩ : ByteArray)), (.string (⟨#[77, 105, 100]⟩ : ByteArray)), (.slice none 0 0), (.int .i64 1), (.slice none 0 0), (.slice a1169 s1173.length c1170)], _, rfl, ⟨none, 0, none, 0, a1169, c1170, rfl, SlK.nil, SlK.nil, h1669⟩, ⟨[(.string (⟨#[68]⟩ : ByteArray)), (.string (⟨#[66, 97, 115, 101]⟩ : ByteArray)), (.slice (some ⟨b1336, 0, none⟩) (([(⟨#[74]⟩ : ByteArray)] : List ByteArray).length) 1), (.int .i64 3), (.slice (some ⟨b1381, 0, none⟩) ([(api_Field.mk (⟨#[119, 97, 115, 116, 101]⟩ : ByteArray) (api_Type.mk x1342.Kind x1342.Class) true), (api_Field.mk (⟨#[120]⟩ : ByteArray) (api_Type.mk x1357.Kind x1357.Class) false)].length) 2), (.slice a1593 s1597.length c1594)], _, rfl, ⟨(some ⟨b1336, 0, none⟩), 1, (some ⟨b1381, 0, none⟩), 2, a1593, c1594, rfl, h1672, h1675, h1678⟩, rfl⟩⟩⟩⟩⟩⟩ rfl rfl
  obtain ⟨K1680, hk1681, h1682, hS⟩ := h1679.freeze (hS.sel [0, 1] rfl)
  replace hS : Sat w _ (flat [_]) := hS
  have hq := Option.some.inj hf
  subst hq
  refine s_ret1 rfl (rv_t rfl) ?_
  have hkk23 := (hkk14.trans hk1677).trans hk1681
  replace hle := hle.trans hkk23
  exact ⟨K1680, _, hle, ⟨(some ⟨b1641, 0, none⟩), 6, rfl, h1682⟩, Sat.nilG (hS.sel [0] rfl)⟩
end Go.Proofs.Ytgaldjnnfkdohaa
