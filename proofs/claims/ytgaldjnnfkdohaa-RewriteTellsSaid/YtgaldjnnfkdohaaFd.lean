/- Functions of the program, and their walks: what each reckons, and that its code reckons it. -/
import Derived.Test.YtgaldjnnfkdohaaFc
set_option linter.unusedVariables false
set_option linter.unusedSimpArgs false
set_option maxHeartbeats 0
set_option maxRecDepth 100000
namespace Go.Proofs.Ytgaldjnnfkdohaa
open Go Go.Fw
noncomputable def bod53 : Code := Try.f53.body.getD .skip
theorem isf53 : IsFn Try.prog 53 Try.f53 bod53 := ⟨Try.func53, rfl, by decide⟩
-- 53 bonsai/bonsaiseat.util
def bonsaiseat_util.fn (p1 : Int) : Option api_Class := (bonsaiseat_typ.fn 1).bind fun x5 => (bonsaiseat_typ.fn 1).bind fun x12 => (bonsaiseat_typ.fn 1).bind fun x21 => (bonsaiseat_at.fn 4 0).bind fun x26 => (bonsaiseat_num.fn 1).bind fun x31 => (bonsaiseat_one.fn 8).bind fun x36 => (bonsaiseat_one.fn 39).bind fun x41 => (bonsaiseat_method.fn (⟨#[105, 110, 99]⟩ : ByteArray) [x5] x21 true 1 [x26, x31, x36, x41]).bind fun x56 => (bonsaiseat_typ.fn 1).bind fun x70 => (bonsaiseat_at.fn 4 0).bind fun x75 => (bonsaiseat_at.fn 5 2).bind fun x80 => (bonsaiseat_at.fn 4 2).bind fun x85 => (bonsaiseat_at.fn 4 2).bind fun x90 => (bonsaiseat_one.fn 8).bind fun x95 => (bonsaiseat_one.fn 39).bind fun x100 => (bonsaiseat_method.fn (⟨#[116, 119, 105, 99, 101]⟩ : ByteArray) [x5] x70 true 3 [x75, x80, x85, x90, x95, x100]).bind fun x111 => (bonsaiseat_typ.fn 1).bind fun x125 => (bonsaiseat_at.fn 4 0).bind fun x130 => (bonsaiseat_at.fn 20 3).bind fun x135 => (bonsaiseat_num.fn 7).bind fun x140 => (bonsaiseat_num.fn 3).bind fun x145 => (bonsaiseat_one.fn 39).bind fun x150 => (bonsaiseat_method.fn (⟨#[119, 111, 114, 107]⟩ : ByteArray) [x5] x125 true 1 [x130, x135, x140, x145, x150]).bind fun x161 => (bonsaiseat_typ.fn 1).bind fun x175 => (bonsaiseat_at.fn 4 0).bind fun x180 => (bonsaiseat_num.fn 1).bind fun x185 => (bonsaiseat_one.fn 14).bind fun x190 => (bonsaiseat_at.fn 20 6).bind fun x195 => (bonsaiseat_num.fn 0).bind fun x200 => (bonsaiseat_one.fn 39).bind fun x205 => (bonsaiseat_at.fn 4 0).bind fun x210 => (bonsaiseat_num.fn 50).bind fun x215 => (bonsaiseat_one.fn 9).bind fun x220 => (bonsaiseat_call.fn 36 (⟨#[85, 116, 105, 108]⟩ : ByteArray) (⟨#[100, 111, 119, 110]⟩ : ByteArray) (⟨#[40, 73, 41, 73]⟩ : ByteArray)).bind fun x225 => (bonsaiseat_num.fn 1).bind fun x230 => (bonsaiseat_one.fn 8).bind fun x235 => (bonsaiseat_one.fn 39).bind fun x240 => (bonsaiseat_method.fn (⟨#[100, 111, 119, 110]⟩ : ByteArray) [x5] x175 true 1 [x180, x185, x190, x195, x200, x205, x210, x215, x220, x225, x230, x235, x240]).bind fun x251 => (bonsaiseat_ref.fn (⟨#[66, 97, 115, 101]⟩ : ByteArray)).bind fun x265 => (bonsaiseat_ref.fn (⟨#[66, 97, 115, 101]⟩ : ByteArray)).bind fun x272 => (bonsaiseat_at.fn 4 0).bind fun x277 => (bonsaiseat_one.fn 39).bind fun x282 => (bonsaiseat_method.fn (⟨#[115, 97, 109, 101]⟩ : ByteArray) [x265] x272 true 1 [x277, x282]).bind fun x297 => (bonsaiseat_ref.fn (⟨#[73]⟩ : ByteArray)).bind fun x311 => (bonsaiseat_ref.fn (⟨#[73]⟩ : ByteArray)).bind fun x318 => (bonsaiseat_at.fn 4 0).bind fun x323 => (bonsaiseat_one.fn 39).bind fun x328 => (bonsaiseat_method.fn (⟨#[112, 97, 115, 115]⟩ : ByteArray) [x311] x318 true 1 [x323, x328]).bind fun x343 => (bonsaiseat_typ.fn 5).bind fun x357 => (bonsaiseat_of.fn 25 (⟨#[69, 114, 114, 50]⟩ : ByteArray)).bind fun x362 => (bonsaiseat_one.fn 38).bind fun x367 => (bonsaiseat_method.fn (⟨#[102, 97, 105, 108]⟩ : ByteArray) [] x357 true 0 [x362, x367]).bind fun x378 => (bonsaiseat_typ.fn 5).bind fun x392 => (bonsaiseat_str.fn (⟨#[115, 104, 111, 119]⟩ : ByteArray)).bind fun x397 => (bonsaiseat_one.fn 41).bind fun x402 => (bonsaiseat_one.fn 40).bind fun x407 => (bonsaiseat_method.fn (⟨#[115, 104, 111, 119]⟩ : ByteArray) [] x392 true 0 [x397, x402, x407]).bind fun x418 => (bonsaiseat_typ.fn 1).bind fun x432 => (bonsaiseat_at.fn 4 0).bind fun x437 => (bonsaiseat_call.fn 36 (⟨#[71, 111, 110, 101]⟩ : ByteArray) (⟨#[102]⟩ : ByteArray) (⟨#[40, 73, 41, 73]⟩ : ByteArray)).bind fun x442 => (bonsaiseat_one.fn 39).bind fun x447 => (bonsaiseat_method.fn (⟨#[100, 101, 97, 100]⟩ : ByteArray) [x5] x432 true 1 [x437, x442, x447]).bind fun x458 => (bonsaiseat_at.fn 4 0).bind fun x552 => (bonsaiseat_at.fn 20 4).bind fun x557 => (bonsaiseat_num.fn 7).bind fun x562 => (bonsaiseat_one.fn 39).bind fun x567 => (bonsaiseat_num.fn 3).bind fun x572 => (bonsaiseat_one.fn 39).bind fun x577 => (idx [x56, x111, x161, x251, x297, x343, x378, x418, x458] 2).bind fun x586 => (bif (iand .u8 p1 1) == 1 then ((bonsaiseat_num.fn 5).bind fun x802 => (bonsaiseat_str.fn (⟨#[108, 101, 102, 116]⟩ : ByteArray)).bind fun x807 => (bonsaiseat_one.fn 41).bind fun x812 => (bonsaiseat_one.fn 40).bind fun x817 => (idx ([x56, x111, x161, x251, x297, x343, x378, x418, x458].set (2 : Int).toNat (api_Method.mk x586.Name x586.Params (api_Type.mk x586.Ret.Kind x586.Ret.Class) x586.Static x586.Abstract x586.Locals [x552, x557, x562, x567, x572, x577] x586.Handlers)) 7).bind fun x825 => some (([x56, x111, x161, x251, x297, x343, x378, x418, x458].set (2 : Int).toNat (api_Method.mk x586.Name x586.Params (api_Type.mk x586.Ret.Kind x586.Ret.Class) x586.Static x586.Abstract x586.Locals [x552, x557, x562, x567, x572, x577] x586.Handlers)).set (7 : Int).toNat (api_Method.mk x825.Name x825.Params (api_Type.mk x825.Ret.Kind x825.Ret.Class) x825.Static x825.Abstract x825.Locals [x802, x807, x812, x817] x825.Handlers))) else (some ([x56, x111, x161, x251, x297, x343, x378, x418, x458].set (2 : Int).toNat (api_Method.mk x586.Name x586.Params (api_Type.mk x586.Ret.Kind x586.Ret.Class) x586.Static x586.Abstract x586.Locals [x552, x557, x562, x567, x572, x577] x586.Handlers)))).bind fun s734 => (bif (iand .u8 p1 2) == 2 then ((bonsaiseat_clinit.fn (⟨#[117, 116, 105, 108]⟩ : ByteArray)).bind fun x927 => guardB (roomy s734.length 1 128) (some (s734 ++ ([x927] : List api_Method)))) else (some s734)).bind fun s904 => some (api_Class.mk (⟨#[85, 116, 105, 108]⟩ : ByteArray) (⟨#[79, 98, 106, 101, 99, 116]⟩ : ByteArray) [] 1 [(api_Field.mk (⟨#[119, 97, 115, 116, 101]⟩ : ByteArray) (api_Type.mk x12.Kind x12.Class) true)] s904)
theorem bonsaiseat_util_spec {K : KM} {p1 : Int} {r : api_Class} (hf : bonsaiseat_util.fn p1 = some r) : Sp Try.prog 53 [(.int .u8 p1)] K [] (fun K' C v => ∃ (a954 : Option Addr) (c955 : Nat) (a957 : Option Addr) (c958 : Nat) (a960 : Option Addr) (c961 : Nat), v = (.agg (vv81 r a954 c955 a957 c958 a960 c961).toArray) ∧ SlK 9 K' a954 c955 r.Ifaces ∧ SlK 97 K' a957 c958 r.Fields ∧ SlK 67 K' a960 c961 r.Methods) := by
  unfold bonsaiseat_util.fn at hf
  refine spec_enter isf53 rfl ?_
  intro w L hS
  replace hS : Sat w K (flat [L]) := hS
  have hle := KM.le.refl K
  unfold bod53 Try.f53
  dsimp only [Option.getD_some, argSlots]
  refine s_seq (s_reg ?_)
  refine s_al hS rfl rfl rfl ?_
  intro b3 w hS
  replace hS : Sat w K (flat ([(b3, Cl [(.string ByteArray.empty), (.string ByteArray.empty), (.slice none 0 0), (.int .i64 0), (.slice none 0 0), (.slice none 0 0)] 81)] :: _)) := hS
  refine s_nil (qn (s_seq (s_reg ?_)))
  obtain ⟨x5, hx6, hf⟩ := bs hf
  refine s_call isf46 hS.nilG (bonsaiseat_typ_spec hx6) rfl rfl rfl ?_
  rintro _ K7 C9 w hk8 rfl hS
  replace hS := hS.drop1
  refine s_bwc (cs := (vv63 x5)) hS rfl rfl rfl rfl rfl rfl rfl rfl rfl rfl ?_
  intro b10 w hS
  refine s_v rfl rfl rfl ?_
  refine s_nil (qn (s_seq (s_reg ?_)))
  obtain ⟨x12, hx13, hf⟩ := bs hf
  refine s_call isf46 hS.nilG (bonsaiseat_typ_spec hx13) rfl rfl rfl ?_
  rintro _ K14 C16 w hk15 rfl hS
  replace hS := hS.drop1
  refine s_v (v := (.agg #[(.string (⟨#[119, 97, 115, 116, 101]⟩ : ByteArray)), (.int .i64 x12.Kind), (.string x12.Class), (.bool true)])) rfl rfl rfl ?_
  refine s_bwc (cs := [(.string (⟨#[119, 97, 115, 116, 101]⟩ : ByteArray)), (.int .i64 x12.Kind), (.string x12.Class), (.bool true)]) hS rfl rfl rfl rfl rfl rfl rfl rfl rfl rfl ?_
  intro b17 w hS
  refine s_v (v := (.agg #[(.string (⟨#[85, 116, 105, 108]⟩ : ByteArray)), (.string (⟨#[79, 98, 106, 101, 99, 116]⟩ : ByteArray)), (.slice none 0 0), (.int .i64 1), (.slice (some ⟨b17, 0, none⟩) 1 1), (.slice none 0 0)])) rfl rfl rfl ?_
  refine s_al hS rfl rfl rfl ?_
  intro b19 w hS
  replace hS : Sat w K14 (flat ([(b19, Cl [(.string ByteArray.empty), (.string ByteArray.empty), (.slice none 0 0), (.int .i64 0), (.slice none 0 0), (.slice none 0 0)] 81)] :: _)) := hS
  refine s_st (cs' := [(.string (⟨#[85, 116, 105, 108]⟩ : ByteArray)), (.string (⟨#[79, 98, 106, 101, 99, 116]⟩ : ByteArray)), (.slice none 0 0), (.int .i64 1), (.slice (some ⟨b17, 0, none⟩) 1 1), (.slice none 0 0)]) 0 hS rfl rfl rfl rfl rfl ?_
  intro w hS
  replace hS : Sat w _ (flat [_, _, _, _, _]) := hS
  refine s_nil (qn (s_seq (s_reg ?_)))
  refine s_v rfl rfl rfl ?_
  obtain ⟨x21, hx22, hf⟩ := bs hf
  refine s_call isf46 hS.nilG (bonsaiseat_typ_spec hx22) rfl rfl rfl ?_
  rintro _ K23 C25 w hk24 rfl hS
  replace hS := hS.drop1
  obtain ⟨x26, hx27, hf⟩ := bs hf
  refine s_call isf51 hS.nilG (bonsaiseat_at_spec hx27) rfl rfl rfl ?_
  rintro _ K28 C30 w hk29 rfl hS
  replace hS := hS.drop1
  obtain ⟨x31, hx32, hf⟩ := bs hf
  refine s_call isf59 hS.nilG (bonsaiseat_num_spec hx32) rfl rfl rfl ?_
  rintro _ K33 C35 w hk34 rfl hS
  replace hS := hS.drop1
  obtain ⟨x36, hx37, hf⟩ := bs hf
  refine s_call isf50 hS.nilG (bonsaiseat_one_spec hx37) rfl rfl rfl ?_
  rintro _ K38 C40 w hk39 rfl hS
  replace hS := hS.drop1
  obtain ⟨x41, hx42, hf⟩ := bs hf
  refine s_call isf50 hS.nilG (bonsaiseat_one_spec hx42) rfl rfl rfl ?_
  rintro _ K43 C45 w hk44 rfl hS
  replace hS := hS.drop1
  refine s_bwc (cs := ((vv77 x26) ++ ((vv77 x31) ++ ((vv77 x36) ++ ((vv77 x41) ++ []))))) hS rfl rfl rfl rfl rfl rfl rfl rfl rfl rfl ?_
  intro b46 w hS
  have h48 : OwnS 63 K43 (.slice (some ⟨b10, 0, none⟩) 1 1) [x5] [(b10, Cl (vv63 x5) 63)] := OwnS.lit ⟨(vv63 x5), _, rfl, rfl, rfl⟩ rfl rfl
  obtain ⟨K49, hk50, h51, hS⟩ := h48.freeze (hS.sel [3, 0, 1, 2, 4, 5] rfl)
  replace hS : Sat w _ (flat [_, _, _, _, _]) := hS
  have h52 : OwnS 77 K49 (.slice (some ⟨b46, 0, none⟩) 4 4) [x26, x31, x36, x41] [(b46, Cl ((vv77 x26) ++ ((vv77 x31) ++ ((vv77 x36) ++ ((vv77 x41) ++ [])))) 77)] := OwnS.lit ⟨(vv77 x26), _, rfl, rfl, ⟨(vv77 x31), _, rfl, rfl, ⟨(vv77 x36), _, rfl, rfl, ⟨(vv77 x41), _, rfl, rfl, rfl⟩⟩⟩⟩ rfl rfl
  obtain ⟨K53, hk54, h55, hS⟩ := h52.freeze (hS.sel [0, 1, 2, 3, 4] rfl)
  replace hS : Sat w _ (flat [_, _, _, _]) := hS
  obtain ⟨x56, hx57, hf⟩ := bs hf
  replace h51 := h51.mono hk54
  refine s_call isf48 hS.nilG (bonsaiseat_method_spec hx57 h51 h55) rfl rfl rfl ?_
  rintro _ K58 C60 w hk59 ⟨a61, c62, a64, c65, a67, c68, rfl, h63, h66, h69⟩ hS
  replace hS := hS.drop1
  refine s_v rfl rfl rfl ?_
  obtain ⟨x70, hx71, hf⟩ := bs hf
  refine s_call isf46 hS.nilG (bonsaiseat_typ_spec hx71) rfl rfl rfl ?_
  rintro _ K72 C74 w hk73 rfl hS
  replace hS := hS.drop1
  obtain ⟨x75, hx76, hf⟩ := bs hf
  refine s_call isf51 hS.nilG (bonsaiseat_at_spec hx76) rfl rfl rfl ?_
  rintro _ K77 C79 w hk78 rfl hS
  replace hS := hS.drop1
  obtain ⟨x80, hx81, hf⟩ := bs hf
  refine s_call isf51 hS.nilG (bonsaiseat_at_spec hx81) rfl rfl rfl ?_
  rintro _ K82 C84 w hk83 rfl hS
  replace hS := hS.drop1
  obtain ⟨x85, hx86, hf⟩ := bs hf
  refine s_call isf51 hS.nilG (bonsaiseat_at_spec hx86) rfl rfl rfl ?_
  rintro _ K87 C89 w hk88 rfl hS
  replace hS := hS.drop1
  obtain ⟨x90, hx91, hf⟩ := bs hf
  refine s_call isf51 hS.nilG (bonsaiseat_at_spec hx91) rfl rfl rfl ?_
  rintro _ K92 C94 w hk93 rfl hS
  replace hS := hS.drop1
  obtain ⟨x95, hx96, hf⟩ := bs hf
  refine s_call isf50 hS.nilG (bonsaiseat_one_spec hx96) rfl rfl rfl ?_
  rintro _ K97 C99 w hk98 rfl hS
  replace hS := hS.drop1
  obtain ⟨x100, hx101, hf⟩ := bs hf
  refine s_call isf50 hS.nilG (bonsaiseat_one_spec hx101) rfl rfl rfl ?_
  rintro _ K102 C104 w hk103 rfl hS
  replace hS := hS.drop1
  refine s_bwc (cs := ((vv77 x75) ++ ((vv77 x80) ++ ((vv77 x85) ++ ((vv77 x90) ++ ((vv77 x95) ++ ((vv77 x100) ++ []))))))) hS rfl rfl rfl rfl rfl rfl rfl rfl rfl rfl ?_
  intro b105 w hS
  have h107 : OwnS 77 K102 (.slice (some ⟨b105, 0, none⟩) 6 6) [x75, x80, x85, x90, x95, x100] [(b105, Cl ((vv77 x75) ++ ((vv77 x80) ++ ((vv77 x85) ++ ((vv77 x90) ++ ((vv77 x95) ++ ((vv77 x100) ++ [])))))) 77)] := OwnS.lit ⟨(vv77 x75), _, rfl, rfl, ⟨(vv77 x80), _, rfl, rfl, ⟨(vv77 x85), _, rfl, rfl, ⟨(vv77 x90), _, rfl, rfl, ⟨(vv77 x95), _, rfl, rfl, ⟨(vv77 x100), _, rfl, rfl, rfl⟩⟩⟩⟩⟩⟩ rfl rfl
  obtain ⟨K108, hk109, h110, hS⟩ := h107.freeze (hS.sel [0, 1, 2, 3, 4] rfl)
  replace hS : Sat w _ (flat [_, _, _, _]) := hS
  obtain ⟨x111, hx112, hf⟩ := bs hf
  have hkk0 := (((((((hk59.trans hk73).trans hk78).trans hk83).trans hk88).trans hk93).trans hk98).trans hk103).trans hk109
  replace h51 := h51.mono hkk0
  refine s_call isf48 hS.nilG (bonsaiseat_method_spec hx112 h51 h110) rfl rfl rfl ?_
  rintro _ K113 C115 w hk114 ⟨a116, c117, a119, c120, a122, c123, rfl, h118, h121, h124⟩ hS
  replace hS := hS.drop1
  refine s_v rfl rfl rfl ?_
  obtain ⟨x125, hx126, hf⟩ := bs hf
  refine s_call isf46 hS.nilG (bonsaiseat_typ_spec hx126) rfl rfl rfl ?_
  rintro _ K127 C129 w hk128 rfl hS
  replace hS := hS.drop1
  obtain ⟨x130, hx131, hf⟩ := bs hf
  refine s_call isf51 hS.nilG (bonsaiseat_at_spec hx131) rfl rfl rfl ?_
  rintro _ K132 C134 w hk133 rfl hS
  replace hS := hS.drop1
  obtain ⟨x135, hx136, hf⟩ := bs hf
  refine s_call isf51 hS.nilG (bonsaiseat_at_spec hx136) rfl rfl rfl ?_
  rintro _ K137 C139 w hk138 rfl hS
  replace hS := hS.drop1
  obtain ⟨x140, hx141, hf⟩ := bs hf
  refine s_call isf59 hS.nilG (bonsaiseat_num_spec hx141) rfl rfl rfl ?_
  rintro _ K142 C144 w hk143 rfl hS
  replace hS := hS.drop1
  obtain ⟨x145, hx146, hf⟩ := bs hf
  refine s_call isf59 hS.nilG (bonsaiseat_num_spec hx146) rfl rfl rfl ?_
  rintro _ K147 C149 w hk148 rfl hS
  replace hS := hS.drop1
  obtain ⟨x150, hx151, hf⟩ := bs hf
  refine s_call isf50 hS.nilG (bonsaiseat_one_spec hx151) rfl rfl rfl ?_
  rintro _ K152 C154 w hk153 rfl hS
  replace hS := hS.drop1
  refine s_bwc (cs := ((vv77 x130) ++ ((vv77 x135) ++ ((vv77 x140) ++ ((vv77 x145) ++ ((vv77 x150) ++ [])))))) hS rfl rfl rfl rfl rfl rfl rfl rfl rfl rfl ?_
  intro b155 w hS
  have h157 : OwnS 77 K152 (.slice (some ⟨b155, 0, none⟩) 5 5) [x130, x135, x140, x145, x150] [(b155, Cl ((vv77 x130) ++ ((vv77 x135) ++ ((vv77 x140) ++ ((vv77 x145) ++ ((vv77 x150) ++ []))))) 77)] := OwnS.lit ⟨(vv77 x130), _, rfl, rfl, ⟨(vv77 x135), _, rfl, rfl, ⟨(vv77 x140), _, rfl, rfl, ⟨(vv77 x145), _, rfl, rfl, ⟨(vv77 x150), _, rfl, rfl, rfl⟩⟩⟩⟩⟩ rfl rfl
  obtain ⟨K158, hk159, h160, hS⟩ := h157.freeze (hS.sel [0, 1, 2, 3, 4] rfl)
  replace hS : Sat w _ (flat [_, _, _, _]) := hS
  obtain ⟨x161, hx162, hf⟩ := bs hf
  have hkk1 := ((((((hk114.trans hk128).trans hk133).trans hk138).trans hk143).trans hk148).trans hk153).trans hk159
  replace h51 := h51.mono hkk1
  refine s_call isf48 hS.nilG (bonsaiseat_method_spec hx162 h51 h160) rfl rfl rfl ?_
  rintro _ K163 C165 w hk164 ⟨a166, c167, a169, c170, a172, c173, rfl, h168, h171, h174⟩ hS
  replace hS := hS.drop1
  refine s_v rfl rfl rfl ?_
  obtain ⟨x175, hx176, hf⟩ := bs hf
  refine s_call isf46 hS.nilG (bonsaiseat_typ_spec hx176) rfl rfl rfl ?_
  rintro _ K177 C179 w hk178 rfl hS
  replace hS := hS.drop1
  obtain ⟨x180, hx181, hf⟩ := bs hf
  refine s_call isf51 hS.nilG (bonsaiseat_at_spec hx181) rfl rfl rfl ?_
  rintro _ K182 C184 w hk183 rfl hS
  replace hS := hS.drop1
  obtain ⟨x185, hx186, hf⟩ := bs hf
  refine s_call isf59 hS.nilG (bonsaiseat_num_spec hx186) rfl rfl rfl ?_
  rintro _ K187 C189 w hk188 rfl hS
  replace hS := hS.drop1
  obtain ⟨x190, hx191, hf⟩ := bs hf
  refine s_call isf50 hS.nilG (bonsaiseat_one_spec hx191) rfl rfl rfl ?_
  rintro _ K192 C194 w hk193 rfl hS
  replace hS := hS.drop1
  obtain ⟨x195, hx196, hf⟩ := bs hf
  refine s_call isf51 hS.nilG (bonsaiseat_at_spec hx196) rfl rfl rfl ?_
  rintro _ K197 C199 w hk198 rfl hS
  replace hS := hS.drop1
  obtain ⟨x200, hx201, hf⟩ := bs hf
  refine s_call isf59 hS.nilG (bonsaiseat_num_spec hx201) rfl rfl rfl ?_
  rintro _ K202 C204 w hk203 rfl hS
  replace hS := hS.drop1
  obtain ⟨x205, hx206, hf⟩ := bs hf
  refine s_call isf50 hS.nilG (bonsaiseat_one_spec hx206) rfl rfl rfl ?_
  rintro _ K207 C209 w hk208 rfl hS
  replace hS := hS.drop1
  obtain ⟨x210, hx211, hf⟩ := bs hf
  refine s_call isf51 hS.nilG (bonsaiseat_at_spec hx211) rfl rfl rfl ?_
  rintro _ K212 C214 w hk213 rfl hS
  replace hS := hS.drop1
  obtain ⟨x215, hx216, hf⟩ := bs hf
  refine s_call isf59 hS.nilG (bonsaiseat_num_spec hx216) rfl rfl rfl ?_
  rintro _ K217 C219 w hk218 rfl hS
  replace hS := hS.drop1
  obtain ⟨x220, hx221, hf⟩ := bs hf
  refine s_call isf50 hS.nilG (bonsaiseat_one_spec hx221) rfl rfl rfl ?_
  rintro _ K222 C224 w hk223 rfl hS
  replace hS := hS.drop1
  obtain ⟨x225, hx226, hf⟩ := bs hf
  refine s_call isf65 hS.nilG (bonsaiseat_call_spec hx226) rfl rfl rfl ?_
  rintro _ K227 C229 w hk228 rfl hS
  replace hS := hS.drop1
  obtain ⟨x230, hx231, hf⟩ := bs hf
  refine s_call isf59 hS.nilG (bonsaiseat_num_spec hx231) rfl rfl rfl ?_
  rintro _ K232 C234 w hk233 rfl hS
  replace hS := hS.drop1
  obtain ⟨x235, hx236, hf⟩ := bs hf
  refine s_call isf50 hS.nilG (bonsaiseat_one_spec hx236) rfl rfl rfl ?_
  rintro _ K237 C239 w hk238 rfl hS
  replace hS := hS.drop1
  obtain ⟨x240, hx241, hf⟩ := bs hf
  refine s_call isf50 hS.nilG (bonsaiseat_one_spec hx241) rfl rfl rfl ?_
  rintro _ K242 C244 w hk243 rfl hS
  replace hS := hS.drop1
  refine s_bwc (cs := ((vv77 x180) ++ ((vv77 x185) ++ ((vv77 x190) ++ ((vv77 x195) ++ ((vv77 x200) ++ ((vv77 x205) ++ ((vv77 x210) ++ ((vv77 x215) ++ ((vv77 x220) ++ ((vv77 x225) ++ ((vv77 x230) ++ ((vv77 x235) ++ ((vv77 x240) ++ [])))))))))))))) hS rfl rfl rfl rfl rfl rfl rfl rfl rfl rfl ?_
  intro b245 w hS
  have h247 : OwnS 77 K242 (.slice (some ⟨b245, 0, none⟩) 13 13) [x180, x185, x190, x195, x200, x205, x210, x215, x220, x225, x230, x235, x240] [(b245, Cl ((vv77 x180) ++ ((vv77 x185) ++ ((vv77 x190) ++ ((vv77 x195) ++ ((vv77 x200) ++ ((vv77 x205) ++ ((vv77 x210) ++ ((vv77 x215) ++ ((vv77 x220) ++ ((vv77 x225) ++ ((vv77 x230) ++ ((vv77 x235) ++ ((vv77 x240) ++ []))))))))))))) 77)] := OwnS.lit ⟨(vv77 x180), _, rfl, rfl, ⟨(vv77 x185), _, rfl, rfl, ⟨(vv77 x190), _, rfl, rfl, ⟨(vv77 x195), _, rfl, rfl, ⟨(vv77 x200), _, rfl, rfl, ⟨(vv77 x205), _, rfl, rfl, ⟨(vv77 x210), _, rfl, rfl, ⟨(vv77 x215), _, rfl, rfl, ⟨(vv77 x220), _, rfl, rfl, ⟨(vv77 x225), _, rfl, rfl, ⟨(vv77 x230), _, rfl, rfl, ⟨(vv77 x235), _, rfl, rfl, ⟨(vv77 x240), _, rfl, rfl, rfl⟩⟩⟩⟩⟩⟩⟩⟩⟩⟩⟩⟩⟩ rfl rfl
  obtain ⟨K248, hk249, h250, hS⟩ := h247.freeze (hS.sel [0, 1, 2, 3, 4] rfl)
  replace hS : Sat w _ (flat [_, _, _, _]) := hS
  obtain ⟨x251, hx252, hf⟩ := bs hf
  have hkk2 := ((((((((((((((hk164.trans hk178).trans hk183).trans hk188).trans hk193).trans hk198).trans hk203).trans hk208).trans hk213).trans hk218).trans hk223).trans hk228).trans hk233).trans hk238).trans hk243).trans hk249
  replace h51 := h51.mono hkk2
  refine s_call isf48 hS.nilG (bonsaiseat_method_spec hx252 h51 h250) rfl rfl rfl ?_
  rintro _ K253 C255 w hk254 ⟨a256, c257, a259, c260, a262, c263, rfl, h258, h261, h264⟩ hS
  replace hS := hS.drop1
  obtain ⟨x265, hx266, hf⟩ := bs hf
  refine s_call isf63 hS.nilG (bonsaiseat_ref_spec hx266) rfl rfl rfl ?_
  rintro _ K267 C269 w hk268 rfl hS
  replace hS := hS.drop1
  refine s_bwc (cs := (vv63 x265)) hS rfl rfl rfl rfl rfl rfl rfl rfl rfl rfl ?_
  intro b270 w hS
  obtain ⟨x272, hx273, hf⟩ := bs hf
  refine s_call isf63 hS.nilG (bonsaiseat_ref_spec hx273) rfl rfl rfl ?_
  rintro _ K274 C276 w hk275 rfl hS
  replace hS := hS.drop1
  obtain ⟨x277, hx278, hf⟩ := bs hf
  refine s_call isf51 hS.nilG (bonsaiseat_at_spec hx278) rfl rfl rfl ?_
  rintro _ K279 C281 w hk280 rfl hS
  replace hS := hS.drop1
  obtain ⟨x282, hx283, hf⟩ := bs hf
  refine s_call isf50 hS.nilG (bonsaiseat_one_spec hx283) rfl rfl rfl ?_
  rintro _ K284 C286 w hk285 rfl hS
  replace hS := hS.drop1
  refine s_bwc (cs := ((vv77 x277) ++ ((vv77 x282) ++ []))) hS rfl rfl rfl rfl rfl rfl rfl rfl rfl rfl ?_
  intro b287 w hS
  have h289 : OwnS 63 K284 (.slice (some ⟨b270, 0, none⟩) 1 1) [x265] [(b270, Cl (vv63 x265) 63)] := OwnS.lit ⟨(vv63 x265), _, rfl, rfl, rfl⟩ rfl rfl
  obtain ⟨K290, hk291, h292, hS⟩ := h289.freeze (hS.sel [1, 0, 2, 3, 4, 5] rfl)
  replace hS : Sat w _ (flat [_, _, _, _, _]) := hS
  have h293 : OwnS 77 K290 (.slice (some ⟨b287, 0, none⟩) 2 2) [x277, x282] [(b287, Cl ((vv77 x277) ++ ((vv77 x282) ++ [])) 77)] := OwnS.lit ⟨(vv77 x277), _, rfl, rfl, ⟨(vv77 x282), _, rfl, rfl, rfl⟩⟩ rfl rfl
  obtain ⟨K294, hk295, h296, hS⟩ := h293.freeze (hS.sel [0, 1, 2, 3, 4] rfl)
  replace hS : Sat w _ (flat [_, _, _, _]) := hS
  obtain ⟨x297, hx298, hf⟩ := bs hf
  replace h292 := h292.mono hk295
  refine s_call isf48 hS.nilG (bonsaiseat_method_spec hx298 h292 h296) rfl rfl rfl ?_
  rintro _ K299 C301 w hk300 ⟨a302, c303, a305, c306, a308, c309, rfl, h304, h307, h310⟩ hS
  replace hS := hS.drop1
  obtain ⟨x311, hx312, hf⟩ := bs hf
  refine s_call isf63 hS.nilG (bonsaiseat_ref_spec hx312) rfl rfl rfl ?_
  rintro _ K313 C315 w hk314 rfl hS
  replace hS := hS.drop1
  refine s_bwc (cs := (vv63 x311)) hS rfl rfl rfl rfl rfl rfl rfl rfl rfl rfl ?_
  intro b316 w hS
  obtain ⟨x318, hx319, hf⟩ := bs hf
  refine s_call isf63 hS.nilG (bonsaiseat_ref_spec hx319) rfl rfl rfl ?_
  rintro _ K320 C322 w hk321 rfl hS
  replace hS := hS.drop1
  obtain ⟨x323, hx324, hf⟩ := bs hf
  refine s_call isf51 hS.nilG (bonsaiseat_at_spec hx324) rfl rfl rfl ?_
  rintro _ K325 C327 w hk326 rfl hS
  replace hS := hS.drop1
  obtain ⟨x328, hx329, hf⟩ := bs hf
  refine s_call isf50 hS.nilG (bonsaiseat_one_spec hx329) rfl rfl rfl ?_
  rintro _ K330 C332 w hk331 rfl hS
  replace hS := hS.drop1
  refine s_bwc (cs := ((vv77 x323) ++ ((vv77 x328) ++ []))) hS rfl rfl rfl rfl rfl rfl rfl rfl rfl rfl ?_
  intro b333 w hS
  have h335 : OwnS 63 K330 (.slice (some ⟨b316, 0, none⟩) 1 1) [x311] [(b316, Cl (vv63 x311) 63)] := OwnS.lit ⟨(vv63 x311), _, rfl, rfl, rfl⟩ rfl rfl
  obtain ⟨K336, hk337, h338, hS⟩ := h335.freeze (hS.sel [1, 0, 2, 3, 4, 5] rfl)
  replace hS : Sat w _ (flat [_, _, _, _, _]) := hS
  have h339 : OwnS 77 K336 (.slice (some ⟨b333, 0, none⟩) 2 2) [x323, x328] [(b333, Cl ((vv77 x323) ++ ((vv77 x328) ++ [])) 77)] := OwnS.lit ⟨(vv77 x323), _, rfl, rfl, ⟨(vv77 x328), _, rfl, rfl, rfl⟩⟩ rfl rfl
  obtain ⟨K340, hk341, h342, hS⟩ := h339.freeze (hS.sel [0, 1, 2, 3, 4] rfl)
  replace hS : Sat w _ (flat [_, _, _, _]) := hS
  obtain ⟨x343, hx344, hf⟩ := bs hf
  replace h338 := h338.mono hk341
  refine s_call isf48 hS.nilG (bonsaiseat_method_spec hx344 h338 h342) rfl rfl rfl ?_
  rintro _ K345 C347 w hk346 ⟨a348, c349, a351, c352, a354, c355, rfl, h350, h353, h356⟩ hS
  replace hS := hS.drop1
  obtain ⟨x357, hx358, hf⟩ := bs hf
  refine s_call isf46 hS.nilG (bonsaiseat_typ_spec hx358) rfl rfl rfl ?_
  rintro _ K359 C361 w hk360 rfl hS
  replace hS := hS.drop1
  obtain ⟨x362, hx363, hf⟩ := bs hf
  refine s_call isf49 hS.nilG (bonsaiseat_of_spec hx363) rfl rfl rfl ?_
  rintro _ K364 C366 w hk365 rfl hS
  replace hS := hS.drop1
  obtain ⟨x367, hx368, hf⟩ := bs hf
  refine s_call isf50 hS.nilG (bonsaiseat_one_spec hx368) rfl rfl rfl ?_
  rintro _ K369 C371 w hk370 rfl hS
  replace hS := hS.drop1
  refine s_bwc (cs := ((vv77 x362) ++ ((vv77 x367) ++ []))) hS rfl rfl rfl rfl rfl rfl rfl rfl rfl rfl ?_
  intro b372 w hS
  have h374 : OwnS 77 K369 (.slice (some ⟨b372, 0, none⟩) 2 2) [x362, x367] [(b372, Cl ((vv77 x362) ++ ((vv77 x367) ++ [])) 77)] := OwnS.lit ⟨(vv77 x362), _, rfl, rfl, ⟨(vv77 x367), _, rfl, rfl, rfl⟩⟩ rfl rfl
  obtain ⟨K375, hk376, h377, hS⟩ := h374.freeze (hS.sel [0, 1, 2, 3, 4] rfl)
  replace hS : Sat w _ (flat [_, _, _, _]) := hS
  obtain ⟨x378, hx379, hf⟩ := bs hf
  refine s_call isf48 hS.nilG (bonsaiseat_method_spec hx379 SlK.nil h377) rfl rfl rfl ?_
  rintro _ K380 C382 w hk381 ⟨a383, c384, a386, c387, a389, c390, rfl, h385, h388, h391⟩ hS
  replace hS := hS.drop1
  obtain ⟨x392, hx393, hf⟩ := bs hf
  refine s_call isf46 hS.nilG (bonsaiseat_typ_spec hx393) rfl rfl rfl ?_
  rintro _ K394 C396 w hk395 rfl hS
  replace hS := hS.drop1
  obtain ⟨x397, hx398, hf⟩ := bs hf
  refine s_call isf60 hS.nilG (bonsaiseat_str_spec hx398) rfl rfl rfl ?_
  rintro _ K399 C401 w hk400 rfl hS
  replace hS := hS.drop1
  obtain ⟨x402, hx403, hf⟩ := bs hf
  refine s_call isf50 hS.nilG (bonsaiseat_one_spec hx403) rfl rfl rfl ?_
  rintro _ K404 C406 w hk405 rfl hS
  replace hS := hS.drop1
  obtain ⟨x407, hx408, hf⟩ := bs hf
  refine s_call isf50 hS.nilG (bonsaiseat_one_spec hx408) rfl rfl rfl ?_
  rintro _ K409 C411 w hk410 rfl hS
  replace hS := hS.drop1
  refine s_bwc (cs := ((vv77 x397) ++ ((vv77 x402) ++ ((vv77 x407) ++ [])))) hS rfl rfl rfl rfl rfl rfl rfl rfl rfl rfl ?_
  intro b412 w hS
  have h414 : OwnS 77 K409 (.slice (some ⟨b412, 0, none⟩) 3 3) [x397, x402, x407] [(b412, Cl ((vv77 x397) ++ ((vv77 x402) ++ ((vv77 x407) ++ []))) 77)] := OwnS.lit ⟨(vv77 x397), _, rfl, rfl, ⟨(vv77 x402), _, rfl, rfl, ⟨(vv77 x407), _, rfl, rfl, rfl⟩⟩⟩ rfl rfl
  obtain ⟨K415, hk416, h417, hS⟩ := h414.freeze (hS.sel [0, 1, 2, 3, 4] rfl)
  replace hS : Sat w _ (flat [_, _, _, _]) := hS
  obtain ⟨x418, hx419, hf⟩ := bs hf
  refine s_call isf48 hS.nilG (bonsaiseat_method_spec hx419 SlK.nil h417) rfl rfl rfl ?_
  rintro _ K420 C422 w hk421 ⟨a423, c424, a426, c427, a429, c430, rfl, h425, h428, h431⟩ hS
  replace hS := hS.drop1
  refine s_v rfl rfl rfl ?_
  obtain ⟨x432, hx433, hf⟩ := bs hf
  refine s_call isf46 hS.nilG (bonsaiseat_typ_spec hx433) rfl rfl rfl ?_
  rintro _ K434 C436 w hk435 rfl hS
  replace hS := hS.drop1
  obtain ⟨x437, hx438, hf⟩ := bs hf
  refine s_call isf51 hS.nilG (bonsaiseat_at_spec hx438) rfl rfl rfl ?_
  rintro _ K439 C441 w hk440 rfl hS
  replace hS := hS.drop1
  obtain ⟨x442, hx443, hf⟩ := bs hf
  refine s_call isf65 hS.nilG (bonsaiseat_call_spec hx443) rfl rfl rfl ?_
  rintro _ K444 C446 w hk445 rfl hS
  replace hS := hS.drop1
  obtain ⟨x447, hx448, hf⟩ := bs hf
  refine s_call isf50 hS.nilG (bonsaiseat_one_spec hx448) rfl rfl rfl ?_
  rintro _ K449 C451 w hk450 rfl hS
  replace hS := hS.drop1
  refine s_bwc (cs := ((vv77 x437) ++ ((vv77 x442) ++ ((vv77 x447) ++ [])))) hS rfl rfl rfl rfl rfl rfl rfl rfl rfl rfl ?_
  intro b452 w hS
  have h454 : OwnS 77 K449 (.slice (some ⟨b452, 0, none⟩) 3 3) [x437, x442, x447] [(b452, Cl ((vv77 x437) ++ ((vv77 x442) ++ ((vv77 x447) ++ []))) 77)] := OwnS.lit ⟨(vv77 x437), _, rfl, rfl, ⟨(vv77 x442), _, rfl, rfl, ⟨(vv77 x447), _, rfl, rfl, rfl⟩⟩⟩ rfl rfl
  obtain ⟨K455, hk456, h457, hS⟩ := h454.freeze (hS.sel [0, 1, 2, 3, 4] rfl)
  replace hS : Sat w _ (flat [_, _, _, _]) := hS
  obtain ⟨x458, hx459, hf⟩ := bs hf
  have hkk3 := (((((((((((((((((((((((((((((hk254.trans hk268).trans hk275).trans hk280).trans hk285).trans hk291).trans hk295).trans hk300).trans hk314).trans hk321).trans hk326).trans hk331).trans hk337).trans hk341).trans hk346).trans hk360).trans hk365).trans hk370).trans hk376).trans hk381).trans hk395).trans hk400).trans hk405).trans hk410).trans hk416).trans hk421).trans hk435).trans hk440).trans hk445).trans hk450).trans hk456
  replace h51 := h51.mono hkk3
  refine s_call isf48 hS.nilG (bonsaiseat_method_spec hx459 h51 h457) rfl rfl rfl ?_
  rintro _ K460 C462 w hk461 ⟨a463, c464, a466, c467, a469, c470, rfl, h465, h468, h471⟩ hS
  replace hS := hS.drop1
  refine s_bwc (cs := ((vv67 x56 a61 c62 a64 c65 a67 c68) ++ ((vv67 x111 a116 c117 a119 c120 a122 c123) ++ ((vv67 x161 a166 c167 a169 c170 a172 c173) ++ ((vv67 x251 a256 c257 a259 c260 a262 c263) ++ ((vv67 x297 a302 c303 a305 c306 a308 c309) ++ ((vv67 x343 a348 c349 a351 c352 a354 c355) ++ ((vv67 x378 a383 c384 a386 c387 a389 c390) ++ ((vv67 x418 a423 c424 a426 c427 a429 c430) ++ ((vv67 x458 a463 c464 a466 c467 a469 c470) ++ [])))))))))) hS rfl rfl rfl rfl rfl rfl rfl rfl rfl rfl ?_
  intro b472 w hS
  refine s_v rfl rfl rfl ?_
  refine s_st (cs' := [(.string (⟨#[85, 116, 105, 108]⟩ : ByteArray)), (.string (⟨#[79, 98, 106, 101, 99, 116]⟩ : ByteArray)), (.slice none 0 0), (.int .i64 1), (.slice (some ⟨b17, 0, none⟩) 1 1), (.slice (some ⟨b472, 0, none⟩) 9 9)]) 1 hS rfl rfl rfl rfl rfl ?_
  intro w hS
  replace hS : Sat w _ (flat [_, _, _, _, _]) := hS
  refine s_nil (qn (s_seq ?_))
  refine d_start [1] [(11, [0])] hS ?_
  intro w hS
  refine d_v 0 (fun _ _ _ _ _ h => h) [1] hS rfl rfl rfl (by kernel_rfl) rfl rfl ?_
  refine d_ld 1 0 (fun _ _ _ _ _ h => h) [1] hS rfl rfl rfl rfl rfl (by kernel_rfl) rfl rfl ?_
  refine d_op 2 rfl (by kernel_rfl) (by kernel_rfl) (fun X hX => ?_)
  have hlq := KM.le.refl K460
  obtain ⟨x552, hx553, hf⟩ := bs hf
  refine s_call isf51 hS.nilG (bonsaiseat_at_spec hx553) rfl rfl rfl ?_
  rintro _ K554 C556 w hk555 rfl hS
  replace hS := hS.drop1
  replace hlq := hlq.trans hk555
  refine d_go [1] [1] [(11, [0])] [some 0] hX hS hlq rfl rfl ⟨rfl, trivial⟩ ?_
  refine d_op 3 rfl (by kernel_rfl) (by kernel_rfl) (fun X hX => ?_)
  have hlq := KM.le.refl K554
  obtain ⟨x557, hx558, hf⟩ := bs hf
  refine s_call isf51 hS.nilG (bonsaiseat_at_spec hx558) rfl rfl rfl ?_
  rintro _ K559 C561 w hk560 rfl hS
  replace hS := hS.drop1
  replace hlq := hlq.trans hk560
  refine d_go [1] [1] [(11, [0])] [some 0] hX hS hlq rfl rfl ⟨rfl, trivial⟩ ?_
  refine d_op 4 rfl (by kernel_rfl) (by kernel_rfl) (fun X hX => ?_)
  have hlq := KM.le.refl K559
  obtain ⟨x562, hx563, hf⟩ := bs hf
  refine s_call isf59 hS.nilG (bonsaiseat_num_spec hx563) rfl rfl rfl ?_
  rintro _ K564 C566 w hk565 rfl hS
  replace hS := hS.drop1
  replace hlq := hlq.trans hk565
  refine d_go [1] [1] [(11, [0])] [some 0] hX hS hlq rfl rfl ⟨rfl, trivial⟩ ?_
  refine d_op 5 rfl (by kernel_rfl) (by kernel_rfl) (fun X hX => ?_)
  have hlq := KM.le.refl K564
  obtain ⟨x567, hx568, hf⟩ := bs hf
  refine s_call isf50 hS.nilG (bonsaiseat_one_spec hx568) rfl rfl rfl ?_
  rintro _ K569 C571 w hk570 rfl hS
  replace hS := hS.drop1
  replace hlq := hlq.trans hk570
  refine d_go [1] [1] [(11, [0])] [some 0] hX hS hlq rfl rfl ⟨rfl, trivial⟩ ?_
  refine d_op 6 rfl (by kernel_rfl) (by kernel_rfl) (fun X hX => ?_)
  have hlq := KM.le.refl K569
  obtain ⟨x572, hx573, hf⟩ := bs hf
  refine s_call isf59 hS.nilG (bonsaiseat_num_spec hx573) rfl rfl rfl ?_
  rintro _ K574 C576 w hk575 rfl hS
  replace hS := hS.drop1
  replace hlq := hlq.trans hk575
  refine d_go [1] [1] [(11, [0])] [some 0] hX hS hlq rfl rfl ⟨rfl, trivial⟩ ?_
  refine d_op 7 rfl (by kernel_rfl) (by kernel_rfl) (fun X hX => ?_)
  have hlq := KM.le.refl K574
  obtain ⟨x577, hx578, hf⟩ := bs hf
  refine s_call isf50 hS.nilG (bonsaiseat_one_spec hx578) rfl rfl rfl ?_
  rintro _ K579 C581 w hk580 rfl hS
  replace hS := hS.drop1
  replace hlq := hlq.trans hk580
  refine d_go [1] [1] [(11, [0])] [some 0] hX hS hlq rfl rfl ⟨rfl, trivial⟩ ?_
  refine d_op 8 rfl (by kernel_rfl) (by kernel_rfl) (fun X hX => ?_)
  have hlq := KM.le.refl K579
  refine s_bwc (cs := ((vv77 x552) ++ ((vv77 x557) ++ ((vv77 x562) ++ ((vv77 x567) ++ ((vv77 x572) ++ ((vv77 x577) ++ []))))))) hS rfl rfl rfl rfl rfl rfl rfl rfl rfl rfl ?_
  intro b582 w hS
  refine d_go [2] [2] [(11, [1])] [some 0] hX hS hlq rfl rfl ⟨rfl, trivial⟩ ?_
  have hkk4 := ((((((((((((((((((((((((((((((((((((((((((((((((((((((((((((((((((((hk73.trans hk78).trans hk83).trans hk88).trans hk93).trans hk98).trans hk103).trans hk109).trans hk114).trans hk128).trans hk133).trans hk138).trans hk143).trans hk148).trans hk153).trans hk159).trans hk164).trans hk178).trans hk183).trans hk188).trans hk193).trans hk198).trans hk203).trans hk208).trans hk213).trans hk218).trans hk223).trans hk228).trans hk233).trans hk238).trans hk243).trans hk249).trans hk254).trans hk268).trans hk275).trans hk280).trans hk285).trans hk291).trans hk295).trans hk300).trans hk314).trans hk321).trans hk326).trans hk331).trans hk337).trans hk341).trans hk346).trans hk360).trans hk365).trans hk370).trans hk376).trans hk381).trans hk395).trans hk400).trans hk405).trans hk410).trans hk416).trans hk421).trans hk435).trans hk440).trans hk445).trans hk450).trans hk456).trans hk461).trans hk555).trans hk560).trans hk565).trans hk570).trans hk575).trans hk580
  replace h63 := h63.mono hkk4
  replace h66 := h66.mono hkk4
  replace h69 := h69.mono hkk4
  have hkk5 := (((((((((((((((((((((((((((((((((((((((((((((((((((((((((((hk128.trans hk133).trans hk138).trans hk143).trans hk148).trans hk153).trans hk159).trans hk164).trans hk178).trans hk183).trans hk188).trans hk193).trans hk198).trans hk203).trans hk208).trans hk213).trans hk218).trans hk223).trans hk228).trans hk233).trans hk238).trans hk243).trans hk249).trans hk254).trans hk268).trans hk275).trans hk280).trans hk285).trans hk291).trans hk295).trans hk300).trans hk314).trans hk321).trans hk326).trans hk331).trans hk337).trans hk341).trans hk346).trans hk360).trans hk365).trans hk370).trans hk376).trans hk381).trans hk395).trans hk400).trans hk405).trans hk410).trans hk416).trans hk421).trans hk435).trans hk440).trans hk445).trans hk450).trans hk456).trans hk461).trans hk555).trans hk560).trans hk565).trans hk570).trans hk575).trans hk580
  replace h118 := h118.mono hkk5
  replace h121 := h121.mono hkk5
  replace h124 := h124.mono hkk5
  have hkk6 := (((((((((((((((((((((((((((((((((((((((((((((((((((hk178.trans hk183).trans hk188).trans hk193).trans hk198).trans hk203).trans hk208).trans hk213).trans hk218).trans hk223).trans hk228).trans hk233).trans hk238).trans hk243).trans hk249).trans hk254).trans hk268).trans hk275).trans hk280).trans hk285).trans hk291).trans hk295).trans hk300).trans hk314).trans hk321).trans hk326).trans hk331).trans hk337).trans hk341).trans hk346).trans hk360).trans hk365).trans hk370).trans hk376).trans hk381).trans hk395).trans hk400).trans hk405).trans hk410).trans hk416).trans hk421).trans hk435).trans hk440).trans hk445).trans hk450).trans hk456).trans hk461).trans hk555).trans hk560).trans hk565).trans hk570).trans hk575).trans hk580
  replace h168 := h168.mono hkk6
  replace h171 := h171.mono hkk6
  replace h174 := h174.mono hkk6
  have hkk7 := (((((((((((((((((((((((((((((((((((hk268.trans hk275).trans hk280).trans hk285).trans hk291).trans hk295).trans hk300).trans hk314).trans hk321).trans hk326).trans hk331).trans hk337).trans hk341).trans hk346).trans hk360).trans hk365).trans hk370).trans hk376).trans hk381).trans hk395).trans hk400).trans hk405).trans hk410).trans hk416).trans hk421).trans hk435).trans hk440).trans hk445).trans hk450).trans hk456).trans hk461).trans hk555).trans hk560).trans hk565).trans hk570).trans hk575).trans hk580
  replace h258 := h258.mono hkk7
  replace h261 := h261.mono hkk7
  replace h264 := h264.mono hkk7
  have hkk8 := ((((((((((((((((((((((((((((hk314.trans hk321).trans hk326).trans hk331).trans hk337).trans hk341).trans hk346).trans hk360).trans hk365).trans hk370).trans hk376).trans hk381).trans hk395).trans hk400).trans hk405).trans hk410).trans hk416).trans hk421).trans hk435).trans hk440).trans hk445).trans hk450).trans hk456).trans hk461).trans hk555).trans hk560).trans hk565).trans hk570).trans hk575).trans hk580
  replace h304 := h304.mono hkk8
  replace h307 := h307.mono hkk8
  replace h310 := h310.mono hkk8
  have hkk9 := (((((((((((((((((((((hk360.trans hk365).trans hk370).trans hk376).trans hk381).trans hk395).trans hk400).trans hk405).trans hk410).trans hk416).trans hk421).trans hk435).trans hk440).trans hk445).trans hk450).trans hk456).trans hk461).trans hk555).trans hk560).trans hk565).trans hk570).trans hk575).trans hk580
  replace h350 := h350.mono hkk9
  replace h353 := h353.mono hkk9
  replace h356 := h356.mono hkk9
  have hkk10 := ((((((((((((((((hk395.trans hk400).trans hk405).trans hk410).trans hk416).trans hk421).trans hk435).trans hk440).trans hk445).trans hk450).trans hk456).trans hk461).trans hk555).trans hk560).trans hk565).trans hk570).trans hk575).trans hk580
  replace h385 := h385.mono hkk10
  replace h388 := h388.mono hkk10
  replace h391 := h391.mono hkk10
  have hkk11 := ((((((((((hk435.trans hk440).trans hk445).trans hk450).trans hk456).trans hk461).trans hk555).trans hk560).trans hk565).trans hk570).trans hk575).trans hk580
  replace h425 := h425.mono hkk11
  replace h428 := h428.mono hkk11
  replace h431 := h431.mono hkk11
  have hkk12 := ((((hk555.trans hk560).trans hk565).trans hk570).trans hk575).trans hk580
  replace h465 := h465.mono hkk12
  replace h468 := h468.mono hkk12
  replace h471 := h471.mono hkk12
  have h584 : OwnS 67 K579 (.slice (some ⟨b472, 0, none⟩) 9 9) [x56, x111, x161, x251, x297, x343, x378, x418, x458] [(b472, Cl ((vv67 x56 a61 c62 a64 c65 a67 c68) ++ ((vv67 x111 a116 c117 a119 c120 a122 c123) ++ ((vv67 x161 a166 c167 a169 c170 a172 c173) ++ ((vv67 x251 a256 c257 a259 c260 a262 c263) ++ ((vv67 x297 a302 c303 a305 c306 a308 c309) ++ ((vv67 x343 a348 c349 a351 c352 a354 c355) ++ ((vv67 x378 a383 c384 a386 c387 a389 c390) ++ ((vv67 x418 a423 c424 a426 c427 a429 c430) ++ ((vv67 x458 a463 c464 a466 c467 a469 c470) ++ []))))))))) 67)] := OwnS.lit ⟨(vv67 x56 a61 c62 a64 c65 a67 c68), _, rfl, ⟨a61, c62, a64, c65, a67, c68, rfl, h63, h66, h69⟩, ⟨(vv67 x111 a116 c117 a119 c120 a122 c123), _, rfl, ⟨a116, c117, a119, c120, a122, c123, rfl, h118, h121, h124⟩, ⟨(vv67 x161 a166 c167 a169 c170 a172 c173), _, rfl, ⟨a166, c167, a169, c170, a172, c173, rfl, h168, h171, h174⟩, ⟨(vv67 x251 a256 c257 a259 c260 a262 c263), _, rfl, ⟨a256, c257, a259, c260, a262, c263, rfl, h258, h261, h264⟩, ⟨(vv67 x297 a302 c303 a305 c306 a308 c309), _, rfl, ⟨a302, c303, a305, c306, a308, c309, rfl, h304, h307, h310⟩, ⟨(vv67 x343 a348 c349 a351 c352 a354 c355), _, rfl, ⟨a348, c349, a351, c352, a354, c355, rfl, h350, h353, h356⟩, ⟨(vv67 x378 a383 c384 a386 c387 a389 c390), _, rfl, ⟨a383, c384, a386, c387, a389, c390, rfl, h385, h388, h391⟩, ⟨(vv67 x418 a423 c424 a426 c427 a429 c430), _, rfl, ⟨a423, c424, a426, c427, a429, c430, rfl, h425, h428, h431⟩, ⟨(vv67 x458 a463 c464 a466 c467 a469 c470), _, rfl, ⟨a463, c464, a466, c467, a469, c470, rfl, h465, h468, h471⟩, rfl⟩⟩⟩⟩⟩⟩⟩⟩⟩ rfl rfl
  generalize hCg_ : ([(b472, Cl ((vv67 x56 a61 c62 a64 c65 a67 c68) ++ ((vv67 x111 a116 c117 a119 c120 a122 c123) ++ ((vv67 x161 a166 c167 a169 c170 a172 c173) ++ ((vv67 x251 a256 c257 a259 c260 a262 c263) ++ ((vv67 x297 a302 c303 a305 c306 a308 c309) ++ ((vv67 x343 a348 c349 a351 c352 a354 c355) ++ ((vv67 x378 a383 c384 a386 c387 a389 c390) ++ ((vv67 x418 a423 c424 a426 c427 a429 c430) ++ ((vv67 x458 a463 c464 a466 c467 a469 c470) ++ []))))))))) 67)] : Chunks) = C585 at hS h584 ⊢
  clear hCg_
  obtain ⟨x586, hx587, hf⟩ := bs hf
  refine d_ixo 9 1 (fun _ _ _ _ _ h => h) [2] hS rfl h584 hx587 rfl rfl rfl rfl rfl rfl rfl (by kernel_rfl) rfl rfl ?_
  intro b597 l598 cs601 l599 hcs_ hC602 hun600
  obtain ⟨a588, c589, a591, c592, a594, c595, rfl, h590, h593, h596⟩ := hcs_
  subst hC602
  have hq603 := KM.le.refl K579
  refine d_v 10 (fun _ _ _ _ _ h => h) [2] hS rfl rfl rfl (by kernel_rfl) rfl rfl ?_
  refine d_op 11 rfl (by kernel_rfl) (by kernel_rfl) (fun X hX => ?_)
  have hlq := KM.le.refl K579
  have h604 : OwnS 77 K579 (.slice (some ⟨b582, 0, none⟩) 6 6) [x552, x557, x562, x567, x572, x577] [(b582, Cl ((vv77 x552) ++ ((vv77 x557) ++ ((vv77 x562) ++ ((vv77 x567) ++ ((vv77 x572) ++ ((vv77 x577) ++ [])))))) 77)] := OwnS.lit ⟨(vv77 x552), _, rfl, rfl, ⟨(vv77 x557), _, rfl, rfl, ⟨(vv77 x562), _, rfl, rfl, ⟨(vv77 x567), _, rfl, rfl, ⟨(vv77 x572), _, rfl, rfl, ⟨(vv77 x577), _, rfl, rfl, rfl⟩⟩⟩⟩⟩⟩ rfl rfl
  obtain ⟨K605, hk606, h607, hS⟩ := h604.freeze (hS.sel [0, 1, 2, 3, 4, 5] rfl)
  replace hS : Sat w _ (flat [_, _, _, _, _]) := hS
  refine s_stm (cs' := [(.string x586.Name), (.slice a588 x586.Params.length c589), (.int .i64 x586.Ret.Kind), (.string x586.Ret.Class), (.bool x586.Static), (.bool x586.Abstract), (.int .i64 x586.Locals), (.slice (some ⟨b582, 0, none⟩) 6 6), (.slice a594 x586.Handlers.length c595)]) 0 7 hS rfl rfl rfl rfl rfl ?_
  intro w hS
  replace hS : Sat w _ (flat [_, _, _, _, _]) := hS
  replace h590 := h590.mono hk606
  replace h596 := h596.mono hk606
  replace hq603 := hq603.trans hk606
  have h608 := hun600 K605 _ _ hq603 (show GoData.cells 67 _ (api_Method.mk x586.Name x586.Params (api_Type.mk x586.Ret.Kind x586.Ret.Class) x586.Static x586.Abstract x586.Locals [x552, x557, x562, x567, x572, x577] x586.Handlers) _ from ⟨a588, c589, (some ⟨b582, 0, none⟩), 6, a594, c595, rfl, h590, h607, h596⟩)
  have hl609 := OwnS.len h608
  replace hlq := hlq.trans hk606
  refine d_go [1] [0, 1] [] [none] hX hS hlq rfl rfl ⟨rfl, trivial⟩ ?_
  refine d_end (by kernel_rfl) ?_
  refine qn ?_
  obtain ⟨s734, hst735, hf⟩ := bs hf
  have hkk13 := (((((((((((((((((((((((((((((((((((((((((((((((((((((((((((((((((((((((((((((((hk8.trans hk15).trans hk24).trans hk29).trans hk34).trans hk39).trans hk44).trans hk50).trans hk54).trans hk59).trans hk73).trans hk78).trans hk83).trans hk88).trans hk93).trans hk98).trans hk103).trans hk109).trans hk114).trans hk128).trans hk133).trans hk138).trans hk143).trans hk148).trans hk153).trans hk159).trans hk164).trans hk178).trans hk183).trans hk188).trans hk193).trans hk198).trans hk203).trans hk208).trans hk213).trans hk218).trans hk223).trans hk228).trans hk233).trans hk238).trans hk243).trans hk249).trans hk254).trans hk268).trans hk275).trans hk280).trans hk285).trans hk291).trans hk295).trans hk300).trans hk314).trans hk321).trans hk326).trans hk331).trans hk337).trans hk341).trans hk346).trans hk360).trans hk365).trans hk370).trans hk376).trans hk381).trans hk395).trans hk400).trans hk405).trans hk410).trans hk416).trans hk421).trans hk435).trans hk440).trans hk445).trans hk450).trans hk456).trans hk461).trans hk555).trans hk560).trans hk565).trans hk570).trans hk575).trans hk580).trans hk606
  refine s_cut (fun τ w => ∃ (K723 : KM) (a725 : Option Addr) (c726 : Nat) (C727 : Chunks) (C732 : Chunks), τ = [(0, (.int .u8 p1)), (2, (.pointer (some ⟨b3, 0, none⟩))), (4, (.pointer (some ⟨b19, 0, none⟩)))] ∧ KM.le K K723 ∧ OwnS 97 K723 (.slice a725 ([(api_Field.mk (⟨#[119, 97, 115, 116, 101]⟩ : ByteArray) (api_Type.mk x12.Kind x12.Class) true)].length) c726) [(api_Field.mk (⟨#[119, 97, 115, 116, 101]⟩ : ByteArray) (api_Type.mk x12.Kind x12.Class) true)] C727 ∧ OwnS 67 K723 (.slice (some ⟨b472, 0, none⟩) s734.length 9) s734 C732 ∧ Sat w K723 (flat [[(b3, Cl [(.string ByteArray.empty), (.string ByteArray.empty), (.slice none 0 0), (.int .i64 0), (.slice none 0 0), (.slice none 0 0)] 81)], [(b19, Cl [(.string (⟨#[85, 116, 105, 108]⟩ : ByteArray)), (.string (⟨#[79, 98, 106, 101, 99, 116]⟩ : ByteArray)), (.slice none 0 0), (.int .i64 1), (.slice a725 ([(api_Field.mk (⟨#[119, 97, 115, 116, 101]⟩ : ByteArray) (api_Type.mk x12.Kind x12.Class) true)].length) c726), (.slice (some ⟨b472, 0, none⟩) s734.length 9)] 81)], C727, C732, L])) (fun J hJ => ?_) ?_
  · replace hf := hst735
    refine s_seq (s_reg ?_)
    iterate 3 refine s_v rfl rfl rfl ?_
    refine s_nil (qn ?_)
    refine s_if rfl (fun hc => ?_) (fun hc => ?_)
    · replace hf := bif_t hc hf
      refine d_start [1] [(9, [0])] hS ?_
      intro w hS
      refine d_v 0 (fun _ _ _ _ _ h => h) [1] hS rfl rfl rfl (by kernel_rfl) rfl rfl ?_
      refine d_ld 1 0 (fun _ _ _ _ _ h => h) [1] hS rfl rfl rfl rfl rfl (by kernel_rfl) rfl rfl ?_
      refine d_op 2 rfl (by kernel_rfl) (by kernel_rfl) (fun X hX => ?_)
      have hlq := KM.le.refl K605
      obtain ⟨x802, hx803, hf⟩ := bs hf
      refine s_call isf59 hS.nilG (bonsaiseat_num_spec hx803) rfl rfl rfl ?_
      rintro _ K804 C806 w hk805 rfl hS
      replace hS := hS.drop1
      replace hlq := hlq.trans hk805
      refine d_go [1] [1] [(9, [0])] [some 0] hX hS hlq rfl rfl ⟨rfl, trivial⟩ ?_
      refine d_op 3 rfl (by kernel_rfl) (by kernel_rfl) (fun X hX => ?_)
      have hlq := KM.le.refl K804
      obtain ⟨x807, hx808, hf⟩ := bs hf
      refine s_call isf60 hS.nilG (bonsaiseat_str_spec hx808) rfl rfl rfl ?_
      rintro _ K809 C811 w hk810 rfl hS
      replace hS := hS.drop1
      replace hlq := hlq.trans hk810
      refine d_go [1] [1] [(9, [0])] [some 0] hX hS hlq rfl rfl ⟨rfl, trivial⟩ ?_
      refine d_op 4 rfl (by kernel_rfl) (by kernel_rfl) (fun X hX => ?_)
      have hlq := KM.le.refl K809
      obtain ⟨x812, hx813, hf⟩ := bs hf
      refine s_call isf50 hS.nilG (bonsaiseat_one_spec hx813) rfl rfl rfl ?_
      rintro _ K814 C816 w hk815 rfl hS
      replace hS := hS.drop1
      replace hlq := hlq.trans hk815
      refine d_go [1] [1] [(9, [0])] [some 0] hX hS hlq rfl rfl ⟨rfl, trivial⟩ ?_
      refine d_op 5 rfl (by kernel_rfl) (by kernel_rfl) (fun X hX => ?_)
      have hlq := KM.le.refl K814
      obtain ⟨x817, hx818, hf⟩ := bs hf
      refine s_call isf50 hS.nilG (bonsaiseat_one_spec hx818) rfl rfl rfl ?_
      rintro _ K819 C821 w hk820 rfl hS
      replace hS := hS.drop1
      replace hlq := hlq.trans hk820
      refine d_go [1] [1] [(9, [0])] [some 0] hX hS hlq rfl rfl ⟨rfl, trivial⟩ ?_
      refine d_op 6 rfl (by kernel_rfl) (by kernel_rfl) (fun X hX => ?_)
      have hlq := KM.le.refl K819
      refine s_bwc (cs := ((vv77 x802) ++ ((vv77 x807) ++ ((vv77 x812) ++ ((vv77 x817) ++ []))))) hS rfl rfl rfl rfl rfl rfl rfl rfl rfl rfl ?_
      intro b822 w hS
      refine d_go [2] [2] [(9, [1])] [some 0] hX hS hlq rfl rfl ⟨rfl, trivial⟩ ?_
      have hkk14 := ((hk805.trans hk810).trans hk815).trans hk820
      replace h608 := h608.mono hkk14
      generalize hCg_ : ([(b597, Cl (l598 ++ (([(.string x586.Name), (.slice a588 x586.Params.length c589), (.int .i64 x586.Ret.Kind), (.string x586.Ret.Class), (.bool x586.Static), (.bool x586.Abstract), (.int .i64 x586.Locals), (.slice (some ⟨b582, 0, none⟩) 6 6), (.slice a594 x586.Handlers.length c595)] : List Value) ++ l599)) 67)] : Chunks) = C824 at hS h608 ⊢
      clear hCg_
      obtain ⟨x825, hx826, hf⟩ := bs hf
      refine d_ixo 7 1 (fun _ _ _ _ _ h => h) [2] hS rfl h608 hx826 rfl rfl rfl rfl rfl rfl rfl (by kernel_rfl) rfl rfl ?_
      intro b836 l837 cs840 l838 hcs_ hC841 hun839
      obtain ⟨a827, c828, a830, c831, a833, c834, rfl, h829, h832, h835⟩ := hcs_
      subst hC841
      have hq842 := KM.le.refl K819
      refine d_v 8 (fun _ _ _ _ _ h => h) [2] hS rfl rfl rfl (by kernel_rfl) rfl rfl ?_
      refine d_op 9 rfl (by kernel_rfl) (by kernel_rfl) (fun X hX => ?_)
      have hlq := KM.le.refl K819
      have h843 : OwnS 77 K819 (.slice (some ⟨b822, 0, none⟩) 4 4) [x802, x807, x812, x817] [(b822, Cl ((vv77 x802) ++ ((vv77 x807) ++ ((vv77 x812) ++ ((vv77 x817) ++ [])))) 77)] := OwnS.lit ⟨(vv77 x802), _, rfl, rfl, ⟨(vv77 x807), _, rfl, rfl, ⟨(vv77 x812), _, rfl, rfl, ⟨(vv77 x817), _, rfl, rfl, rfl⟩⟩⟩⟩ rfl rfl
      obtain ⟨K844, hk845, h846, hS⟩ := h843.freeze (hS.sel [0, 1, 2, 3, 4, 5] rfl)
      replace hS : Sat w _ (flat [_, _, _, _, _]) := hS
      refine s_stm (cs' := [(.string x825.Name), (.slice a827 x825.Params.length c828), (.int .i64 x825.Ret.Kind), (.string x825.Ret.Class), (.bool x825.Static), (.bool x825.Abstract), (.int .i64 x825.Locals), (.slice (some ⟨b822, 0, none⟩) 4 4), (.slice a833 x825.Handlers.length c834)]) 0 7 hS rfl rfl rfl rfl rfl ?_
      intro w hS
      replace hS : Sat w _ (flat [_, _, _, _, _]) := hS
      replace h829 := h829.mono hk845
      replace h835 := h835.mono hk845
      replace hq842 := hq842.trans hk845
      have h847 := hun839 K844 _ _ hq842 (show GoData.cells 67 _ (api_Method.mk x825.Name x825.Params (api_Type.mk x825.Ret.Kind x825.Ret.Class) x825.Static x825.Abstract x825.Locals [x802, x807, x812, x817] x825.Handlers) _ from ⟨a827, c828, (some ⟨b822, 0, none⟩), 4, a833, c834, rfl, h829, h846, h835⟩)
      have hl848 := OwnS.len h847
      replace hlq := hlq.trans hk845
      refine d_go [1] [0, 1] [] [none] hX hS hlq rfl rfl ⟨rfl, trivial⟩ ?_
      refine d_end (by kernel_rfl) ?_
      refine qn ?_
      have h849 : OwnS 97 K844 (.slice (some ⟨b17, 0, none⟩) 1 1) [(api_Field.mk (⟨#[119, 97, 115, 116, 101]⟩ : ByteArray) (api_Type.mk x12.Kind x12.Class) true)] [(b17, Cl [(.string (⟨#[119, 97, 115, 116, 101]⟩ : ByteArray)), (.int .i64 x12.Kind), (.string x12.Class), (.bool true)] 97)] := OwnS.lit ⟨[(.string (⟨#[119, 97, 115, 116, 101]⟩ : ByteArray)), (.int .i64 x12.Kind), (.string x12.Class), (.bool true)], _, rfl, rfl, rfl⟩ rfl rfl
      have hq := Option.some.inj hf
      subst hq
      have hkk15 := ((((hkk13.trans hk805).trans hk810).trans hk815).trans hk820).trans hk845
      replace hle := hle.trans hkk15
      refine s_join hJ _ ⟨K844, (some ⟨b17, 0, none⟩), 1, [(b17, Cl [(.string (⟨#[119, 97, 115, 116, 101]⟩ : ByteArray)), (.int .i64 x12.Kind), (.string x12.Class), (.bool true)] 97)], [(b836, Cl (l837 ++ (([(.string x825.Name), (.slice a827 x825.Params.length c828), (.int .i64 x825.Ret.Kind), (.string x825.Ret.Class), (.bool x825.Static), (.bool x825.Abstract), (.int .i64 x825.Locals), (.slice (some ⟨b822, 0, none⟩) 4 4), (.slice a833 x825.Handlers.length c834)] : List Value) ++ l838)) 67)], rfl, hle, h849, (OwnS.norm h847), (by (try rw [hl848]); exact (hS.sel [3, 1, 2, 0, 4] rfl))⟩ ⟨rfl, rfl, rfl, trivial⟩
    replace hf := bif_f hc hf
    refine s_skip (qn ?_)
    have h850 : OwnS 97 K605 (.slice (some ⟨b17, 0, none⟩) 1 1) [(api_Field.mk (⟨#[119, 97, 115, 116, 101]⟩ : ByteArray) (api_Type.mk x12.Kind x12.Class) true)] [(b17, Cl [(.string (⟨#[119, 97, 115, 116, 101]⟩ : ByteArray)), (.int .i64 x12.Kind), (.string x12.Class), (.bool true)] 97)] := OwnS.lit ⟨[(.string (⟨#[119, 97, 115, 116, 101]⟩ : ByteArray)), (.int .i64 x12.Kind), (.string x12.Class), (.bool true)], _, rfl, rfl, rfl⟩ rfl rfl
    have hq := Option.some.inj hf
    subst hq
    replace hle := hle.trans hkk13
    refine s_join hJ _ ⟨K605, (some ⟨b17, 0, none⟩), 1, [(b17, Cl [(.string (⟨#[119, 97, 115, 116, 101]⟩ : ByteArray)), (.int .i64 x12.Kind), (.string x12.Class), (.bool true)] 97)], [(b597, Cl (l598 ++ (([(.string x586.Name), (.slice a588 x586.Params.length c589), (.int .i64 x586.Ret.Kind), (.string x586.Ret.Class), (.bool x586.Static), (.bool x586.Abstract), (.int .i64 x586.Locals), (.slice (some ⟨b582, 0, none⟩) 6 6), (.slice a594 x586.Handlers.length c595)] : List Value) ++ l599)) 67)], rfl, hle, h850, (OwnS.norm h608), (by (try rw [hl609]); exact (hS.sel [3, 1, 2, 0, 4] rfl))⟩ ⟨rfl, rfl, rfl, trivial⟩
  rintro _ w ⟨K723, a725, c726, C727, C732, rfl, hle, h724, h729, hS⟩
  obtain ⟨s904, hst905, hf⟩ := bs hf
  refine s_cut (fun τ w => ∃ (K893 : KM) (C897 : Chunks) (a900 : Option Addr) (c901 : Nat) (C902 : Chunks), τ = [(2, (.pointer (some ⟨b3, 0, none⟩))), (4, (.pointer (some ⟨b19, 0, none⟩)))] ∧ KM.le K K893 ∧ OwnS 97 K893 (.slice a725 ([(api_Field.mk (⟨#[119, 97, 115, 116, 101]⟩ : ByteArray) (api_Type.mk x12.Kind x12.Class) true)].length) c726) [(api_Field.mk (⟨#[119, 97, 115, 116, 101]⟩ : ByteArray) (api_Type.mk x12.Kind x12.Class) true)] C897 ∧ OwnS 67 K893 (.slice a900 s904.length c901) s904 C902 ∧ Sat w K893 (flat [[(b3, Cl [(.string ByteArray.empty), (.string ByteArray.empty), (.slice none 0 0), (.int .i64 0), (.slice none 0 0), (.slice none 0 0)] 81)], [(b19, Cl [(.string (⟨#[85, 116, 105, 108]⟩ : ByteArray)), (.string (⟨#[79, 98, 106, 101, 99, 116]⟩ : ByteArray)), (.slice none 0 0), (.int .i64 1), (.slice a725 ([(api_Field.mk (⟨#[119, 97, 115, 116, 101]⟩ : ByteArray) (api_Type.mk x12.Kind x12.Class) true)].length) c726), (.slice a900 s904.length c901)] 81)], C897, C902, L])) (fun J hJ => ?_) ?_
  · replace hf := hst905
    refine s_seq (s_reg ?_)
    iterate 3 refine s_v rfl rfl rfl ?_
    refine s_nil (qn ?_)
    refine s_if rfl (fun hc => ?_) (fun hc => ?_)
    · replace hf := bif_t hc hf
      refine d_start [] [(6, [1])] hS ?_
      intro w hS
      refine d_v 0 (fun _ _ _ _ _ h => h) [] hS rfl rfl rfl (by kernel_rfl) rfl rfl ?_
      refine d_ldh 1 0 (fun _ _ _ _ _ h => h) [] hS rfl rfl rfl (by kernel_rfl) rfl rfl (by kernel_rfl) rfl rfl ?_
      refine d_op 2 rfl (by kernel_rfl) (by kernel_rfl) (fun X hX => ?_)
      have hlq := KM.le.refl K723
      obtain ⟨x927, hx928, hf⟩ := bs hf
      refine s_call isf47 hS.nilG (bonsaiseat_clinit_spec hx928) rfl rfl rfl ?_
      rintro _ K929 C931 w hk930 ⟨a932, c933, a935, c936, a938, c939, rfl, h934, h937, h940⟩ hS
      replace hS := hS.drop1
      replace hlq := hlq.trans hk930
      refine d_go [] [] [(6, [1])] [some 0] hX hS hlq rfl rfl ⟨rfl, trivial⟩ ?_
      refine d_op 3 rfl (by kernel_rfl) (by kernel_rfl) (fun X hX => ?_)
      have hlq := KM.le.refl K929
      refine s_bwc (cs := (vv67 x927 a932 c933 a935 c936 a938 c939)) hS rfl rfl rfl rfl rfl rfl rfl rfl rfl rfl ?_
      intro b941 w hS
      refine d_go [] [] [(6, [2])] [some 0] hX hS hlq rfl rfl ⟨rfl, trivial⟩ ?_
      refine d_op 4 rfl (by kernel_rfl) (by kernel_rfl) (fun X hX => ?_)
      have hlq := KM.le.refl K929
      obtain ⟨hm943, hf⟩ := gs hf
      replace h729 := h729.mono hk930
      refine s_appv (e := 67) (ys := ([x927] : List api_Method)) 4 0 hS rfl h729 rfl ⟨(vv67 x927 a932 c933 a935 c936 a938 c939), _, rfl, ⟨a932, c933, a935, c936, a938, c939, rfl, h934, h937, h940⟩, rfl⟩ rfl rfl rfl rfl rfl rfl rfl rfl (roomy_le hm943) rfl rfl rfl ?_
      intro a944 c945 w C946 h947 hS
      replace hS : Sat w _ (flat [_, _, _, _, _, _]) := hS
      refine d_go [] [] [(6, [2])] [some 0] hX hS hlq rfl rfl ⟨rfl, trivial⟩ ?_
      refine d_v 5 (fun _ _ _ _ _ h => h) [] hS rfl rfl rfl (by kernel_rfl) rfl rfl ?_
      refine d_op 6 rfl (by kernel_rfl) (by kernel_rfl) (fun X hX => ?_)
      have hlq := KM.le.refl K929
      refine s_st (cs' := [(.string (⟨#[85, 116, 105, 108]⟩ : ByteArray)), (.string (⟨#[79, 98, 106, 101, 99, 116]⟩ : ByteArray)), (.slice none 0 0), (.int .i64 1), (.slice a725 ([(api_Field.mk (⟨#[119, 97, 115, 116, 101]⟩ : ByteArray) (api_Type.mk x12.Kind x12.Class) true)].length) c726), (.slice a944 ((s734 ++ ([x927] : List api_Method)).length) c945)]) 2 hS rfl rfl rfl rfl rfl ?_
      intro w hS
      replace hS : Sat w _ (flat [_, _, _, _, _, _]) := hS
      refine d_go [] [2] [] [none] hX hS hlq rfl rfl ⟨rfl, trivial⟩ ?_
      refine d_end (by kernel_rfl) ?_
      refine qn ?_
      have hq := Option.some.inj hf
      subst hq
      replace h724 := h724.mono hk930
      replace hle := hle.trans hk930
      refine s_join hJ _ ⟨K929, C727, a944, c945, C946, rfl, hle, h724, h947, (hS.sel [1, 2, 3, 4, 5] rfl)⟩ ⟨rfl, rfl, trivial⟩
    replace hf := bif_f hc hf
    refine s_skip (qn ?_)
    have hq := Option.some.inj hf
    subst hq
    refine s_join hJ _ ⟨K723, C727, (some ⟨b472, 0, none⟩), 9, C732, rfl, hle, h724, h729, hS⟩ ⟨rfl, rfl, trivial⟩
  rintro _ w ⟨K893, C897, a900, c901, C902, rfl, hle, h894, h899, hS⟩
  refine s_seq (s_reg ?_)
  refine s_ld (v := (.agg #[(.string (⟨#[85, 116, 105, 108]⟩ : ByteArray)), (.string (⟨#[79, 98, 106, 101, 99, 116]⟩ : ByteArray)), (.slice none 0 0), (.int .i64 1), (.slice a725 ([(api_Field.mk (⟨#[119, 97, 115, 116, 101]⟩ : ByteArray) (api_Type.mk x12.Kind x12.Class) true)].length) c726), (.slice a900 s904.length c901)])) 1 hS rfl rfl rfl rfl rfl ?_
  refine s_st (cs' := [(.string (⟨#[85, 116, 105, 108]⟩ : ByteArray)), (.string (⟨#[79, 98, 106, 101, 99, 116]⟩ : ByteArray)), (.slice none 0 0), (.int .i64 1), (.slice a725 ([(api_Field.mk (⟨#[119, 97, 115, 116, 101]⟩ : ByteArray) (api_Type.mk x12.Kind x12.Class) true)].length) c726), (.slice a900 s904.length c901)]) 0 hS rfl rfl rfl rfl rfl ?_
  intro w hS
  replace hS : Sat w _ (flat [_, _, _, _, _]) := hS
  refine s_nil (qn ?_)
  replace hS : Sat w K893 (flat [_, _, _, _]) := (hS.sel [0, 2, 3, 4] rfl)
  refine s_rets ?_
  obtain ⟨K948, hk949, h950, hS⟩ := h894.freeze (hS.sel [1, 0, 2, 3] rfl)
  replace hS : Sat w _ (flat [_, _, _]) := hS
  replace h899 := h899.mono hk949
  obtain ⟨K951, hk952, h953, hS⟩ := h899.freeze (hS.sel [1, 0, 2] rfl)
  replace hS : Sat w _ (flat [_, _]) := hS
  have hq := Option.some.inj hf
  subst hq
  refine s_ret1 rfl (rv_c (v := (.agg #[(.string (⟨#[85, 116, 105, 108]⟩ : ByteArray)), (.string (⟨#[79, 98, 106, 101, 99, 116]⟩ : ByteArray)), (.slice none 0 0), (.int .i64 1), (.slice a725 ([(api_Field.mk (⟨#[119, 97, 115, 116, 101]⟩ : ByteArray) (api_Type.mk x12.Kind x12.Class) true)].length) c726), (.slice a900 s904.length c901)])) 0 hS rfl rfl rfl) ?_
  replace hle := hle.trans (hk949.trans hk952)
  replace h950 := h950.mono hk952
  exact ⟨K951, _, hle, ⟨none, 0, a725, c726, a900, c901, rfl, SlK.nil, h950, h953⟩, Sat.nilG (hS.sel [1] rfl)⟩
end Go.Proofs.Ytgaldjnnfkdohaa
