/- Functions of the program, and their walks: what each reckons, and that its code reckons it. -/
import Derived.Test.YtgaldjnnfkdohaaFe
set_option linter.unusedVariables false
set_option linter.unusedSimpArgs false
set_option maxHeartbeats 0
set_option maxRecDepth 100000
namespace Go.Proofs.Ytgaldjnnfkdohaa
open Go Go.Fw
noncomputable def bod31 : Code := Try.f31.body.getD .skip
theorem isf31 : IsFn Try.prog 31 Try.f31 bod31 := ⟨Try.func31, rfl, by decide⟩
-- 31 bonsai/bonsaiseat.Archive
def bonsaiseat_Archive.l0 (fu : Nat) : Nat → (List api_Class) → Int → Option (List api_Class)
  | 0, _, _ => none
  | k + 1, v2549, v2550 => bif decide (v2550 < (w64 (Int.tdiv (v2549.length : Int) 2))) then ((idx v2549 (w64 ((w64 ((v2549.length : Int) - 1)) - v2550))).bind fun x2667 => (idx v2549 v2550).bind fun x2686 => (idx v2549 v2550).bind fun x2705 => (idx (v2549.set (v2550 : Int).toNat x2667) (w64 ((w64 ((v2549.length : Int) - 1)) - v2550))).bind fun x2726 => bonsaiseat_Archive.l0 fu k ((v2549.set (v2550 : Int).toNat x2667).set (w64 ((w64 ((v2549.length : Int) - 1)) - v2550) : Int).toNat x2686) (w64 (v2550 + 1))) else (some v2549)
def bonsaiseat_Archive.fn (fu : Nat) (p1 : Arr4_uint8) (p2 : (List Int)) (p6 : (List Int)) : Option api_Archive := (bonsaiseat_Body.fn fu p2).bind fun x15 => (bonsaiseat_Body.fn fu p6).bind fun x26 => (bonsaiseat_typ.fn 5).bind fun x37 => (bonsaiseat_typ.fn 5).bind fun x42 => (bif (iand .u8 p1.e2 1) == 1 then ((bonsaiseat_clinit.fn (⟨#[109, 97, 105, 110]⟩ : ByteArray)).bind fun x125 => guardB (roomy [(api_Method.mk (⟨#[109, 97, 105, 110]⟩ : ByteArray) [] (api_Type.mk x37.Kind x37.Class) true false 6 x15.1 x15.2), (api_Method.mk (⟨#[97, 108, 116]⟩ : ByteArray) [] (api_Type.mk x42.Kind x42.Class) true false 6 x26.1 x26.2)].length 1 128) (some ([(api_Method.mk (⟨#[109, 97, 105, 110]⟩ : ByteArray) [] (api_Type.mk x37.Kind x37.Class) true false 6 x15.1 x15.2), (api_Method.mk (⟨#[97, 108, 116]⟩ : ByteArray) [] (api_Type.mk x42.Kind x42.Class) true false 6 x26.1 x26.2)] ++ ([x125] : List api_Method)))) else (some [(api_Method.mk (⟨#[109, 97, 105, 110]⟩ : ByteArray) [] (api_Type.mk x37.Kind x37.Class) true false 6 x15.1 x15.2), (api_Method.mk (⟨#[97, 108, 116]⟩ : ByteArray) [] (api_Type.mk x42.Kind x42.Class) true false 6 x26.1 x26.2)])).bind fun s101 => (bonsaiseat_typ.fn 1).bind fun x148 => (bif (iand .u8 p1.e2 2) == 2 then ((bonsaiseat_typ.fn 1).bind fun x191 => some [(api_Method.mk (⟨#[114, 117, 110]⟩ : ByteArray) [] (api_Type.mk x191.Kind x191.Class) false true 0 [] [])]) else (some ([] : List api_Method))).bind fun s189 => (idx ([1, 1, 1] : List Int) (Int.tmod p1.e3 3)).bind fun x208 => (bonsaiseat_typ.fn 1).bind fun x221 => (bonsaiseat_typ.fn 1).bind fun x228 => (bonsaiseat_of.fn 25 (⟨#[71, 111, 110, 101]⟩ : ByteArray)).bind fun x233 => (bonsaiseat_one.fn 6).bind fun x238 => (bonsaiseat_at.fn 4 0).bind fun x243 => (bonsaiseat_one.fn 39).bind fun x248 => (bonsaiseat_method.fn (⟨#[102]⟩ : ByteArray) [x221] x228 true 1 [x233, x238, x243, x248]).bind fun x263 => ((bonsaiseat_family.fn p1).bind fun x1250 => guardB (roomy [(api_Class.mk (⟨#[77, 97, 105, 110]⟩ : ByteArray) (⟨#[79, 98, 106, 101, 99, 116]⟩ : ByteArray) [] 1 [] s101), (api_Class.mk (⟨#[73]⟩ : ByteArray) (⟨#[79, 98, 106, 101, 99, 116]⟩ : ByteArray) [] 4 [] [(api_Method.mk (⟨#[114, 117, 110]⟩ : ByteArray) [] (api_Type.mk x148.Kind x148.Class) false true 0 [] [])]), (api_Class.mk (⟨#[74]⟩ : ByteArray) (⟨#[79, 98, 106, 101, 99, 116]⟩ : ByteArray) [(⟨#[73]⟩ : ByteArray)] 4 [] s189)].length x1250.length 112) (some ([(api_Class.mk (⟨#[77, 97, 105, 110]⟩ : ByteArray) (⟨#[79, 98, 106, 101, 99, 116]⟩ : ByteArray) [] 1 [] s101), (api_Class.mk (⟨#[73]⟩ : ByteArray) (⟨#[79, 98, 106, 101, 99, 116]⟩ : ByteArray) [] 4 [] [(api_Method.mk (⟨#[114, 117, 110]⟩ : ByteArray) [] (api_Type.mk x148.Kind x148.Class) false true 0 [] [])]), (api_Class.mk (⟨#[74]⟩ : ByteArray) (⟨#[79, 98, 106, 101, 99, 116]⟩ : ByteArray) [(⟨#[73]⟩ : ByteArray)] 4 [] s189)] ++ x1250))).bind fun s998 => (bonsaiseat_util.fn p1.e3).bind fun x1488 => guardB (roomy s998.length 4 112) ((bif (iand .u8 p1.e2 4) == 4 then (bonsaiseat_Archive.l0 fu fu (s998 ++ ([(api_Class.mk (⟨#[69, 114, 114]⟩ : ByteArray) (⟨#[70, 97, 117, 108, 116]⟩ : ByteArray) [] x208 [] []), (api_Class.mk (⟨#[69, 114, 114, 50]⟩ : ByteArray) (⟨#[69, 114, 114]⟩ : ByteArray) [] 1 [] []), (api_Class.mk (⟨#[71, 111, 110, 101]⟩ : ByteArray) (⟨#[65]⟩ : ByteArray) [] 1 [] [x263]), x1488] : List api_Class)) 0) else (some (s998 ++ ([(api_Class.mk (⟨#[69, 114, 114]⟩ : ByteArray) (⟨#[70, 97, 117, 108, 116]⟩ : ByteArray) [] x208 [] []), (api_Class.mk (⟨#[69, 114, 114, 50]⟩ : ByteArray) (⟨#[69, 114, 114]⟩ : ByteArray) [] 1 [] []), (api_Class.mk (⟨#[71, 111, 110, 101]⟩ : ByteArray) (⟨#[65]⟩ : ByteArray) [] 1 [] [x263]), x1488] : List api_Class)))).bind fun s2131 => some (api_Archive.mk s2131))
theorem bonsaiseat_Archive_spec {K : KM} {fu : Nat} {p1 : Arr4_uint8} {p2 : (List Int)} {p6 : (List Int)} {r : api_Archive} {a3 : Option Addr} {c4 : Nat} {a7 : Option Addr} {c8 : Nat} (hf : bonsaiseat_Archive.fn fu p1 p2 p6 = some r) (h5 : SlK 5 K a3 c4 p2) (h9 : SlK 5 K a7 c8 p6) : Sp Try.prog 31 [(.agg (vv68 p1).toArray), (.slice a3 p2.length c4), (.slice a7 p6.length c8)] K [] (fun K' C v => ∃ (a2749 : Option Addr) (c2750 : Nat), v = (.agg #[(.slice a2749 r.Classes.length c2750)]) ∧ SlK 81 K' a2749 c2750 r.Classes) := by
  unfold bonsaiseat_Archive.fn at hf
  refine spec_enter isf31 rfl ?_
  intro w L hS
  replace hS : Sat w K (flat [L]) := hS
  have hle := KM.le.refl K
  unfold bod31 Try.f31
  dsimp only [Option.getD_some, argSlots]
  refine s_seq (s_reg ?_)
  refine s_bx hS rfl rfl rfl ?_
  intro b11 w hS
  replace hS : Sat w K (flat ([(b11, Cl (vv68 p1) 68)] :: _)) := hS
  refine s_al hS rfl rfl rfl ?_
  intro b13 w hS
  replace hS : Sat w K (flat ([(b13, Cl [(.slice none 0 0)] 74)] :: _)) := hS
  refine s_nil (qn (s_seq (s_reg ?_)))
  refine s_v rfl rfl rfl ?_
  obtain ⟨x15, hx16, hf⟩ := bs hf
  refine s_call isf45 hS.nilG (bonsaiseat_Body_spec hx16 h5) rfl rfl rfl ?_
  rintro _ K17 C19 w hk18 ⟨a20, c21, a23, c24, rfl, h22, h25⟩ hS
  replace hS := hS.drop1
  iterate 5 refine s_v rfl rfl rfl ?_
  refine s_nil (qn (s_seq (s_reg ?_)))
  refine s_v rfl rfl rfl ?_
  obtain ⟨x26, hx27, hf⟩ := bs hf
  replace h9 := h9.mono hk18
  refine s_call isf45 hS.nilG (bonsaiseat_Body_spec hx27 h9) rfl rfl rfl ?_
  rintro _ K28 C30 w hk29 ⟨a31, c32, a34, c35, rfl, h33, h36⟩ hS
  replace hS := hS.drop1
  iterate 5 refine s_v rfl rfl rfl ?_
  refine s_nil (qn (s_seq (s_reg ?_)))
  obtain ⟨x37, hx38, hf⟩ := bs hf
  refine s_call isf46 hS.nilG (bonsaiseat_typ_spec hx38) rfl rfl rfl ?_
  rintro _ K39 C41 w hk40 rfl hS
  replace hS := hS.drop1
  iterate 2 refine s_v rfl rfl rfl ?_
  refine s_v (v := (.agg #[(.string (⟨#[109, 97, 105, 110]⟩ : ByteArray)), (.slice none 0 0), (.int .i64 x37.Kind), (.string x37.Class), (.bool true), (.bool false), (.int .i64 6), (.slice a20 x15.1.length c21), (.slice a23 x15.2.length c24)])) rfl rfl rfl ?_
  obtain ⟨x42, hx43, hf⟩ := bs hf
  refine s_call isf46 hS.nilG (bonsaiseat_typ_spec hx43) rfl rfl rfl ?_
  rintro _ K44 C46 w hk45 rfl hS
  replace hS := hS.drop1
  iterate 2 refine s_v rfl rfl rfl ?_
  refine s_v (v := (.agg #[(.string (⟨#[97, 108, 116]⟩ : ByteArray)), (.slice none 0 0), (.int .i64 x42.Kind), (.string x42.Class), (.bool true), (.bool false), (.int .i64 6), (.slice a31 x26.1.length c32), (.slice a34 x26.2.length c35)])) rfl rfl rfl ?_
  refine s_bwc (cs := [(.string (⟨#[109, 97, 105, 110]⟩ : ByteArray)), (.slice none 0 0), (.int .i64 x37.Kind), (.string x37.Class), (.bool true), (.bool false), (.int .i64 6), (.slice a20 x15.1.length c21), (.slice a23 x15.2.length c24), (.string (⟨#[97, 108, 116]⟩ : ByteArray)), (.slice none 0 0), (.int .i64 x42.Kind), (.string x42.Class), (.bool true), (.bool false), (.int .i64 6), (.slice a31 x26.1.length c32), (.slice a34 x26.2.length c35)]) hS rfl rfl rfl rfl rfl rfl rfl rfl rfl rfl ?_
  intro b47 w hS
  refine s_v (v := (.agg #[(.string (⟨#[77, 97, 105, 110]⟩ : ByteArray)), (.string (⟨#[79, 98, 106, 101, 99, 116]⟩ : ByteArray)), (.slice none 0 0), (.int .i64 1), (.slice none 0 0), (.slice (some ⟨b47, 0, none⟩) 2 2)])) rfl rfl rfl ?_
  refine s_al hS rfl rfl rfl ?_
  intro b49 w hS
  replace hS : Sat w K44 (flat ([(b49, Cl [(.string ByteArray.empty), (.string ByteArray.empty), (.slice none 0 0), (.int .i64 0), (.slice none 0 0), (.slice none 0 0)] 81)] :: _)) := hS
  refine s_st (cs' := [(.string (⟨#[77, 97, 105, 110]⟩ : ByteArray)), (.string (⟨#[79, 98, 106, 101, 99, 116]⟩ : ByteArray)), (.slice none 0 0), (.int .i64 1), (.slice none 0 0), (.slice (some ⟨b47, 0, none⟩) 2 2)]) 0 hS rfl rfl rfl rfl rfl ?_
  intro w hS
  replace hS : Sat w _ (flat [_, _, _, _, _]) := hS
  refine s_nil (qn ?_)
  obtain ⟨s101, hst102, hf⟩ := bs hf
  have hkk0 := ((hk18.trans hk29).trans hk40).trans hk45
  refine s_cut (fun τ w => ∃ (K95 : KM) (a97 : Option Addr) (c98 : Nat) (C99 : Chunks), τ = [(3, (.pointer (some ⟨b11, 0, none⟩))), (6, (.pointer (some ⟨b13, 0, none⟩))), (11, (.pointer (some ⟨b49, 0, none⟩)))] ∧ KM.le K K95 ∧ OwnS 67 K95 (.slice a97 s101.length c98) s101 C99 ∧ Sat w K95 (flat [[(b11, Cl (vv68 p1) 68)], [(b13, Cl [(.slice none 0 0)] 74)], [(b49, Cl [(.string (⟨#[77, 97, 105, 110]⟩ : ByteArray)), (.string (⟨#[79, 98, 106, 101, 99, 116]⟩ : ByteArray)), (.slice none 0 0), (.int .i64 1), (.slice none 0 0), (.slice a97 s101.length c98)] 81)], C99, L])) (fun J hJ => ?_) ?_
  · replace hf := hst102
    refine s_seq (s_reg ?_)
    refine s_v rfl rfl rfl ?_
    refine s_ld 3 hS rfl rfl rfl rfl rfl ?_
    iterate 2 refine s_v rfl rfl rfl ?_
    refine s_nil (qn ?_)
    refine s_if rfl (fun hc => ?_) (fun hc => ?_)
    · replace hf := bif_t hc hf
      refine d_start [] [(6, [0])] hS ?_
      intro w hS
      refine d_v 0 (fun _ _ _ _ _ h => h) [] hS rfl rfl rfl (by kernel_rfl) rfl rfl ?_
      refine d_ldh 1 0 (fun _ _ _ _ _ h => h) [] hS rfl rfl rfl (by kernel_rfl) rfl rfl (by kernel_rfl) rfl rfl ?_
      refine d_op 2 rfl (by kernel_rfl) (by kernel_rfl) (fun X hX => ?_)
      have hlq := KM.le.refl K44
      obtain ⟨x125, hx126, hf⟩ := bs hf
      refine s_call isf47 hS.nilG (bonsaiseat_clinit_spec hx126) rfl rfl rfl ?_
      rintro _ K127 C129 w hk128 ⟨a130, c131, a133, c134, a136, c137, rfl, h132, h135, h138⟩ hS
      replace hS := hS.drop1
      replace hlq := hlq.trans hk128
      refine d_go [] [] [(6, [0])] [some 0] hX hS hlq rfl rfl ⟨rfl, trivial⟩ ?_
      refine d_op 3 rfl (by kernel_rfl) (by kernel_rfl) (fun X hX => ?_)
      have hlq := KM.le.refl K127
      refine s_bwc (cs := (vv67 x125 a130 c131 a133 c134 a136 c137)) hS rfl rfl rfl rfl rfl rfl rfl rfl rfl rfl ?_
      intro b139 w hS
      refine d_go [] [] [(6, [1])] [some 0] hX hS hlq rfl rfl ⟨rfl, trivial⟩ ?_
      refine d_op 4 rfl (by kernel_rfl) (by kernel_rfl) (fun X hX => ?_)
      have hlq := KM.le.refl K127
      have hkk1 := ((hk29.trans hk40).trans hk45).trans hk128
      replace h22 := h22.mono hkk1
      replace h25 := h25.mono hkk1
      replace h33 := h33.mono ((hk40.trans hk45).trans hk128)
      replace h36 := h36.mono ((hk40.trans hk45).trans hk128)
      have h141 : OwnS 67 K127 (.slice (some ⟨b47, 0, none⟩) 2 2) [(api_Method.mk (⟨#[109, 97, 105, 110]⟩ : ByteArray) [] (api_Type.mk x37.Kind x37.Class) true false 6 x15.1 x15.2), (api_Method.mk (⟨#[97, 108, 116]⟩ : ByteArray) [] (api_Type.mk x42.Kind x42.Class) true false 6 x26.1 x26.2)] [(b47, Cl [(.string (⟨#[109, 97, 105, 110]⟩ : ByteArray)), (.slice none 0 0), (.int .i64 x37.Kind), (.string x37.Class), (.bool true), (.bool false), (.int .i64 6), (.slice a20 x15.1.length c21), (.slice a23 x15.2.length c24), (.string (⟨#[97, 108, 116]⟩ : ByteArray)), (.slice none 0 0), (.int .i64 x42.Kind), (.string x42.Class), (.bool true), (.bool false), (.int .i64 6), (.slice a31 x26.1.length c32), (.slice a34 x26.2.length c35)] 67)] := OwnS.lit ⟨[(.string (⟨#[109, 97, 105, 110]⟩ : ByteArray)), (.slice none 0 0), (.int .i64 x37.Kind), (.string x37.Class), (.bool true), (.bool false), (.int .i64 6), (.slice a20 x15.1.length c21), (.slice a23 x15.2.length c24)], _, rfl, ⟨none, 0, a20, c21, a23, c24, rfl, SlK.nil, h22, h25⟩, ⟨[(.string (⟨#[97, 108, 116]⟩ : ByteArray)), (.slice none 0 0), (.int .i64 x42.Kind), (.string x42.Class), (.bool true), (.bool false), (.int .i64 6), (.slice a31 x26.1.length c32), (.slice a34 x26.2.length c35)], _, rfl, ⟨none, 0, a31, c32, a34, c35, rfl, SlK.nil, h33, h36⟩, rfl⟩⟩ rfl rfl
      obtain ⟨hm142, hf⟩ := gs hf
      refine s_appv (e := 67) (ys := ([x125] : List api_Method)) 2 0 hS rfl h141 rfl ⟨(vv67 x125 a130 c131 a133 c134 a136 c137), _, rfl, ⟨a130, c131, a133, c134, a136, c137, rfl, h132, h135, h138⟩, rfl⟩ rfl rfl rfl rfl rfl rfl rfl rfl (roomy_le hm142) rfl rfl rfl ?_
      intro a143 c144 w C145 h146 hS
      replace hS : Sat w _ (flat [_, _, _, _, _, _]) := hS
      refine d_go [] [] [(6, [1])] [some 0] hX hS hlq rfl rfl ⟨rfl, trivial⟩ ?_
      refine d_v 5 (fun _ _ _ _ _ h => h) [] hS rfl rfl rfl (by kernel_rfl) rfl rfl ?_
      refine d_op 6 rfl (by kernel_rfl) (by kernel_rfl) (fun X hX => ?_)
      have hlq := KM.le.refl K127
      refine s_st (cs' := [(.string (⟨#[77, 97, 105, 110]⟩ : ByteArray)), (.string (⟨#[79, 98, 106, 101, 99, 116]⟩ : ByteArray)), (.slice none 0 0), (.int .i64 1), (.slice none 0 0), (.slice a143 (([(api_Method.mk (⟨#[109, 97, 105, 110]⟩ : ByteArray) [] (api_Type.mk x37.Kind x37.Class) true false 6 x15.1 x15.2), (api_Method.mk (⟨#[97, 108, 116]⟩ : ByteArray) [] (api_Type.mk x42.Kind x42.Class) true false 6 x26.1 x26.2)] ++ ([x125] : List api_Method)).length) c144)]) 1 hS rfl rfl rfl rfl rfl ?_
      intro w hS
      replace hS : Sat w _ (flat [_, _, _, _, _, _]) := hS
      refine d_go [] [1] [] [none] hX hS hlq rfl rfl ⟨rfl, trivial⟩ ?_
      refine d_end (by kernel_rfl) ?_
      refine qn ?_
      have hq := Option.some.inj hf
      subst hq
      replace hle := hle.trans (hkk0.trans hk128)
      refine s_join hJ _ ⟨K127, a143, c144, C145, rfl, hle, h146, (hS.sel [4, 3, 1, 2, 5] rfl)⟩ ⟨rfl, rfl, rfl, trivial⟩
    replace hf := bif_f hc hf
    refine s_skip (qn ?_)
    replace h22 := h22.mono ((hk29.trans hk40).trans hk45)
    replace h25 := h25.mono ((hk29.trans hk40).trans hk45)
    replace h33 := h33.mono (hk40.trans hk45)
    replace h36 := h36.mono (hk40.trans hk45)
    have h147 : OwnS 67 K44 (.slice (some ⟨b47, 0, none⟩) 2 2) [(api_Method.mk (⟨#[109, 97, 105, 110]⟩ : ByteArray) [] (api_Type.mk x37.Kind x37.Class) true false 6 x15.1 x15.2), (api_Method.mk (⟨#[97, 108, 116]⟩ : ByteArray) [] (api_Type.mk x42.Kind x42.Class) true false 6 x26.1 x26.2)] [(b47, Cl [(.string (⟨#[109, 97, 105, 110]⟩ : ByteArray)), (.slice none 0 0), (.int .i64 x37.Kind), (.string x37.Class), (.bool true), (.bool false), (.int .i64 6), (.slice a20 x15.1.length c21), (.slice a23 x15.2.length c24), (.string (⟨#[97, 108, 116]⟩ : ByteArray)), (.slice none 0 0), (.int .i64 x42.Kind), (.string x42.Class), (.bool true), (.bool false), (.int .i64 6), (.slice a31 x26.1.length c32), (.slice a34 x26.2.length c35)] 67)] := OwnS.lit ⟨[(.string (⟨#[109, 97, 105, 110]⟩ : ByteArray)), (.slice none 0 0), (.int .i64 x37.Kind), (.string x37.Class), (.bool true), (.bool false), (.int .i64 6), (.slice a20 x15.1.length c21), (.slice a23 x15.2.length c24)], _, rfl, ⟨none, 0, a20, c21, a23, c24, rfl, SlK.nil, h22, h25⟩, ⟨[(.string (⟨#[97, 108, 116]⟩ : ByteArray)), (.slice none 0 0), (.int .i64 x42.Kind), (.string x42.Class), (.bool true), (.bool false), (.int .i64 6), (.slice a31 x26.1.length c32), (.slice a34 x26.2.length c35)], _, rfl, ⟨none, 0, a31, c32, a34, c35, rfl, SlK.nil, h33, h36⟩, rfl⟩⟩ rfl rfl
    have hq := Option.some.inj hf
    subst hq
    replace hle := hle.trans hkk0
    refine s_join hJ _ ⟨K44, (some ⟨b47, 0, none⟩), 2, [(b47, Cl [(.string (⟨#[109, 97, 105, 110]⟩ : ByteArray)), (.slice none 0 0), (.int .i64 x37.Kind), (.string x37.Class), (.bool true), (.bool false), (.int .i64 6), (.slice a20 x15.1.length c21), (.slice a23 x15.2.length c24), (.string (⟨#[97, 108, 116]⟩ : ByteArray)), (.slice none 0 0), (.int .i64 x42.Kind), (.string x42.Class), (.bool true), (.bool false), (.int .i64 6), (.slice a31 x26.1.length c32), (.slice a34 x26.2.length c35)] 67)], rfl, hle, h147, (hS.sel [3, 2, 0, 1, 4] rfl)⟩ ⟨rfl, rfl, rfl, trivial⟩
  rintro _ w ⟨K95, a97, c98, C99, rfl, hle, h96, hS⟩
  refine s_seq (s_reg ?_)
  obtain ⟨x148, hx149, hf⟩ := bs hf
  refine s_call isf46 hS.nilG (bonsaiseat_typ_spec hx149) rfl rfl rfl ?_
  rintro _ K150 C152 w hk151 rfl hS
  replace hS := hS.drop1
  refine s_v (v := (.agg #[(.string (⟨#[114, 117, 110]⟩ : ByteArray)), (.slice none 0 0), (.int .i64 x148.Kind), (.string x148.Class), (.bool false), (.bool true), (.int .i64 0), (.slice none 0 0), (.slice none 0 0)])) rfl rfl rfl ?_
  refine s_bwc (cs := [(.string (⟨#[114, 117, 110]⟩ : ByteArray)), (.slice none 0 0), (.int .i64 x148.Kind), (.string x148.Class), (.bool false), (.bool true), (.int .i64 0), (.slice none 0 0), (.slice none 0 0)]) hS rfl rfl rfl rfl rfl rfl rfl rfl rfl rfl ?_
  intro b153 w hS
  refine s_v (v := (.agg #[(.string (⟨#[73]⟩ : ByteArray)), (.string (⟨#[79, 98, 106, 101, 99, 116]⟩ : ByteArray)), (.slice none 0 0), (.int .i64 4), (.slice none 0 0), (.slice (some ⟨b153, 0, none⟩) 1 1)])) rfl rfl rfl ?_
  refine s_al hS rfl rfl rfl ?_
  intro b155 w hS
  replace hS : Sat w K150 (flat ([(b155, Cl [(.string ByteArray.empty), (.string ByteArray.empty), (.slice none 0 0), (.int .i64 0), (.slice none 0 0), (.slice none 0 0)] 81)] :: _)) := hS
  refine s_st (cs' := [(.string (⟨#[73]⟩ : ByteArray)), (.string (⟨#[79, 98, 106, 101, 99, 116]⟩ : ByteArray)), (.slice none 0 0), (.int .i64 4), (.slice none 0 0), (.slice (some ⟨b153, 0, none⟩) 1 1)]) 0 hS rfl rfl rfl rfl rfl ?_
  intro w hS
  replace hS : Sat w _ (flat [_, _, _, _, _, _, _]) := hS
  refine s_nil (qn (s_seq (s_reg ?_)))
  refine s_bwc (cs := [(.string (⟨#[73]⟩ : ByteArray))]) hS rfl rfl rfl rfl rfl rfl rfl rfl rfl rfl ?_
  intro b157 w hS
  refine s_v (v := (.agg #[(.string (⟨#[74]⟩ : ByteArray)), (.string (⟨#[79, 98, 106, 101, 99, 116]⟩ : ByteArray)), (.slice (some ⟨b157, 0, none⟩) 1 1), (.int .i64 4), (.slice none 0 0), (.slice none 0 0)])) rfl rfl rfl ?_
  refine s_al hS rfl rfl rfl ?_
  intro b159 w hS
  replace hS : Sat w K150 (flat ([(b159, Cl [(.string ByteArray.empty), (.string ByteArray.empty), (.slice none 0 0), (.int .i64 0), (.slice none 0 0), (.slice none 0 0)] 81)] :: _)) := hS
  refine s_st (cs' := [(.string (⟨#[74]⟩ : ByteArray)), (.string (⟨#[79, 98, 106, 101, 99, 116]⟩ : ByteArray)), (.slice (some ⟨b157, 0, none⟩) 1 1), (.int .i64 4), (.slice none 0 0), (.slice none 0 0)]) 0 hS rfl rfl rfl rfl rfl ?_
  intro w hS
  replace hS : Sat w _ (flat [_, _, _, _, _, _, _, _, _]) := hS
  refine s_nil (qn ?_)
  obtain ⟨s189, hst190, hf⟩ := bs hf
  refine s_cut (fun τ w => ∃ (K168 : KM) (C172 : Chunks) (a175 : Option Addr) (c176 : Nat) (C177 : Chunks) (a180 : Option Addr) (c181 : Nat) (C182 : Chunks) (a185 : Option Addr) (c186 : Nat) (C187 : Chunks), τ = [(3, (.pointer (some ⟨b11, 0, none⟩))), (6, (.pointer (some ⟨b13, 0, none⟩))), (11, (.pointer (some ⟨b49, 0, none⟩))), (12, (.pointer (some ⟨b155, 0, none⟩))), (13, (.pointer (some ⟨b159, 0, none⟩)))] ∧ KM.le K K168 ∧ OwnS 67 K168 (.slice a97 s101.length c98) s101 C172 ∧ OwnS 67 K168 (.slice a175 ([(api_Method.mk (⟨#[114, 117, 110]⟩ : ByteArray) [] (api_Type.mk x148.Kind x148.Class) false true 0 [] [])].length) c176) [(api_Method.mk (⟨#[114, 117, 110]⟩ : ByteArray) [] (api_Type.mk x148.Kind x148.Class) false true 0 [] [])] C177 ∧ OwnS 9 K168 (.slice a180 ([(⟨#[73]⟩ : ByteArray)].length) c181) [(⟨#[73]⟩ : ByteArray)] C182 ∧ OwnS 67 K168 (.slice a185 s189.length c186) s189 C187 ∧ Sat w K168 (flat [[(b11, Cl (vv68 p1) 68)], [(b13, Cl [(.slice none 0 0)] 74)], [(b49, Cl [(.string (⟨#[77, 97, 105, 110]⟩ : ByteArray)), (.string (⟨#[79, 98, 106, 101, 99, 116]⟩ : ByteArray)), (.slice none 0 0), (.int .i64 1), (.slice none 0 0), (.slice a97 s101.length c98)] 81)], C172, [(b155, Cl [(.string (⟨#[73]⟩ : ByteArray)), (.string (⟨#[79, 98, 106, 101, 99, 116]⟩ : ByteArray)), (.slice none 0 0), (.int .i64 4), (.slice none 0 0), (.slice a175 ([(api_Method.mk (⟨#[114, 117, 110]⟩ : ByteArray) [] (api_Type.mk x148.Kind x148.Class) false true 0 [] [])].length) c176)] 81)], C177, [(b159, Cl [(.string (⟨#[74]⟩ : ByteArray)), (.string (⟨#[79, 98, 106, 101, 99, 116]⟩ : ByteArray)), (.slice a180 ([(⟨#[73]⟩ : ByteArray)].length) c181), (.int .i64 4), (.slice none 0 0), (.slice a185 s189.length c186)] 81)], C182, C187, L])) (fun J hJ => ?_) ?_
  · replace hf := hst190
    refine s_seq (s_reg ?_)
    refine s_v rfl rfl rfl ?_
    refine s_ld 4 hS rfl rfl rfl rfl rfl ?_
    iterate 2 refine s_v rfl rfl rfl ?_
    refine s_nil (qn ?_)
    refine s_if rfl (fun hc => ?_) (fun hc => ?_)
    · replace hf := bif_t hc hf
      refine s_reg ?_
      obtain ⟨x191, hx192, hf⟩ := bs hf
      refine s_call isf46 hS.nilG (bonsaiseat_typ_spec hx192) rfl rfl rfl ?_
      rintro _ K193 C195 w hk194 rfl hS
      replace hS := hS.drop1
      refine s_v (v := (.agg #[(.string (⟨#[114, 117, 110]⟩ : ByteArray)), (.slice none 0 0), (.int .i64 x191.Kind), (.string x191.Class), (.bool false), (.bool true), (.int .i64 0), (.slice none 0 0), (.slice none 0 0)])) rfl rfl rfl ?_
      refine s_bwc (cs := [(.string (⟨#[114, 117, 110]⟩ : ByteArray)), (.slice none 0 0), (.int .i64 x191.Kind), (.string x191.Class), (.bool false), (.bool true), (.int .i64 0), (.slice none 0 0), (.slice none 0 0)]) hS rfl rfl rfl rfl rfl rfl rfl rfl rfl rfl ?_
      intro b196 w hS
      refine s_v rfl rfl rfl ?_
      refine s_st (cs' := [(.string (⟨#[74]⟩ : ByteArray)), (.string (⟨#[79, 98, 106, 101, 99, 116]⟩ : ByteArray)), (.slice (some ⟨b157, 0, none⟩) 1 1), (.int .i64 4), (.slice none 0 0), (.slice (some ⟨b196, 0, none⟩) 1 1)]) 1 hS rfl rfl rfl rfl rfl ?_
      intro w hS
      replace hS : Sat w _ (flat [_, _, _, _, _, _, _, _, _, _]) := hS
      refine s_nil (qn ?_)
      have h198 : OwnS 67 K193 (.slice (some ⟨b153, 0, none⟩) 1 1) [(api_Method.mk (⟨#[114, 117, 110]⟩ : ByteArray) [] (api_Type.mk x148.Kind x148.Class) false true 0 [] [])] [(b153, Cl [(.string (⟨#[114, 117, 110]⟩ : ByteArray)), (.slice none 0 0), (.int .i64 x148.Kind), (.string x148.Class), (.bool false), (.bool true), (.int .i64 0), (.slice none 0 0), (.slice none 0 0)] 67)] := OwnS.lit ⟨[(.string (⟨#[114, 117, 110]⟩ : ByteArray)), (.slice none 0 0), (.int .i64 x148.Kind), (.string x148.Class), (.bool false), (.bool true), (.int .i64 0), (.slice none 0 0), (.slice none 0 0)], _, rfl, ⟨none, 0, none, 0, none, 0, rfl, SlK.nil, SlK.nil, SlK.nil⟩, rfl⟩ rfl rfl
      have h199 : OwnS 9 K193 (.slice (some ⟨b157, 0, none⟩) 1 1) ([(⟨#[73]⟩ : ByteArray)] : List ByteArray) [(b157, Cl [(.string (⟨#[73]⟩ : ByteArray))] 9)] := OwnS.lit ⟨[(.string (⟨#[73]⟩ : ByteArray))], _, rfl, rfl, rfl⟩ rfl rfl
      have h200 : OwnS 67 K193 (.slice (some ⟨b196, 0, none⟩) 1 1) [(api_Method.mk (⟨#[114, 117, 110]⟩ : ByteArray) [] (api_Type.mk x191.Kind x191.Class) false true 0 [] [])] [(b196, Cl [(.string (⟨#[114, 117, 110]⟩ : ByteArray)), (.slice none 0 0), (.int .i64 x191.Kind), (.string x191.Class), (.bool false), (.bool true), (.int .i64 0), (.slice none 0 0), (.slice none 0 0)] 67)] := OwnS.lit ⟨[(.string (⟨#[114, 117, 110]⟩ : ByteArray)), (.slice none 0 0), (.int .i64 x191.Kind), (.string x191.Class), (.bool false), (.bool true), (.int .i64 0), (.slice none 0 0), (.slice none 0 0)], _, rfl, ⟨none, 0, none, 0, none, 0, rfl, SlK.nil, SlK.nil, SlK.nil⟩, rfl⟩ rfl rfl
      have hq := Option.some.inj hf
      subst hq
      replace h96 := h96.mono (hk151.trans hk194)
      replace hle := hle.trans (hk151.trans hk194)
      refine s_join hJ _ ⟨K193, C99, (some ⟨b153, 0, none⟩), 1, [(b153, Cl [(.string (⟨#[114, 117, 110]⟩ : ByteArray)), (.slice none 0 0), (.int .i64 x148.Kind), (.string x148.Class), (.bool false), (.bool true), (.int .i64 0), (.slice none 0 0), (.slice none 0 0)] 67)], (some ⟨b157, 0, none⟩), 1, [(b157, Cl [(.string (⟨#[73]⟩ : ByteArray))] 9)], (some ⟨b196, 0, none⟩), 1, [(b196, Cl [(.string (⟨#[114, 117, 110]⟩ : ByteArray)), (.slice none 0 0), (.int .i64 x191.Kind), (.string x191.Class), (.bool false), (.bool true), (.int .i64 0), (.slice none 0 0), (.slice none 0 0)] 67)], rfl, hle, h96, h198, h199, h200, (hS.sel [5, 6, 7, 8, 3, 4, 1, 2, 0, 9] rfl)⟩ ⟨rfl, rfl, rfl, rfl, rfl, trivial⟩
    replace hf := bif_f hc hf
    refine s_skip (qn ?_)
    have h201 : OwnS 67 K150 (.slice (some ⟨b153, 0, none⟩) 1 1) [(api_Method.mk (⟨#[114, 117, 110]⟩ : ByteArray) [] (api_Type.mk x148.Kind x148.Class) false true 0 [] [])] [(b153, Cl [(.string (⟨#[114, 117, 110]⟩ : ByteArray)), (.slice none 0 0), (.int .i64 x148.Kind), (.string x148.Class), (.bool false), (.bool true), (.int .i64 0), (.slice none 0 0), (.slice none 0 0)] 67)] := OwnS.lit ⟨[(.string (⟨#[114, 117, 110]⟩ : ByteArray)), (.slice none 0 0), (.int .i64 x148.Kind), (.string x148.Class), (.bool false), (.bool true), (.int .i64 0), (.slice none 0 0), (.slice none 0 0)], _, rfl, ⟨none, 0, none, 0, none, 0, rfl, SlK.nil, SlK.nil, SlK.nil⟩, rfl⟩ rfl rfl
    have h202 : OwnS 9 K150 (.slice (some ⟨b157, 0, none⟩) 1 1) ([(⟨#[73]⟩ : ByteArray)] : List ByteArray) [(b157, Cl [(.string (⟨#[73]⟩ : ByteArray))] 9)] := OwnS.lit ⟨[(.string (⟨#[73]⟩ : ByteArray))], _, rfl, rfl, rfl⟩ rfl rfl
    replace hS := hS.nilG
    have hq := Option.some.inj hf
    subst hq
    replace h96 := h96.mono hk151
    replace hle := hle.trans hk151
    refine s_join hJ _ ⟨K150, C99, (some ⟨b153, 0, none⟩), 1, [(b153, Cl [(.string (⟨#[114, 117, 110]⟩ : ByteArray)), (.slice none 0 0), (.int .i64 x148.Kind), (.string x148.Class), (.bool false), (.bool true), (.int .i64 0), (.slice none 0 0), (.slice none 0 0)] 67)], (some ⟨b157, 0, none⟩), 1, [(b157, Cl [(.string (⟨#[73]⟩ : ByteArray))] 9)], none, 0, [], rfl, hle, h96, h201, h202, OwnS.nil, (hS.sel [5, 6, 7, 8, 3, 4, 1, 2, 0, 9] rfl)⟩ ⟨rfl, rfl, rfl, rfl, rfl, trivial⟩
  rintro _ w ⟨K168, C172, a175, c176, C177, a180, c181, C182, a185, c186, C187, rfl, hle, h169, h174, h179, h184, hS⟩
  refine s_seq (s_reg ?_)
  refine s_bwc (cs := [(.int .i64 1), (.int .i64 1), (.int .i64 1)]) hS rfl rfl rfl rfl rfl rfl rfl rfl rfl rfl ?_
  intro b204 w hS
  refine s_v rfl rfl rfl ?_
  refine s_ld 1 hS rfl rfl rfl rfl rfl ?_
  refine s_v rfl rfl rfl ?_
  have h206 : OwnS 3 K168 (.slice (some ⟨b204, 0, none⟩) 3 3) ([1, 1, 1] : List Int) [(b204, Cl [(.int .i64 1), (.int .i64 1), (.int .i64 1)] 3)] := OwnS.lit ⟨[(.int .i64 1)], _, rfl, rfl, ⟨[(.int .i64 1)], _, rfl, rfl, ⟨[(.int .i64 1)], _, rfl, rfl, rfl⟩⟩⟩ rfl rfl
  generalize hCg_ : ([(b204, Cl [(.int .i64 1), (.int .i64 1), (.int .i64 1)] 3)] : Chunks) = C207 at hS h206
  clear hCg_
  obtain ⟨x208, hx209, hf⟩ := bs hf
  refine s_ixo 0 hS rfl h206 hx209 rfl rfl rfl rfl rfl rfl rfl ?_
  intro b210 l211 cs214 l212 hcs_ hC215 hun213
  obtain rfl := hcs_
  subst hC215
  have hq216 := KM.le.refl K168
  refine s_ldm 0 0 hS rfl rfl rfl rfl rfl ?_
  refine s_v (v := (.agg #[(.string (⟨#[69, 114, 114]⟩ : ByteArray)), (.string (⟨#[70, 97, 117, 108, 116]⟩ : ByteArray)), (.slice none 0 0), (.int .i64 x208), (.slice none 0 0), (.slice none 0 0)])) rfl rfl rfl ?_
  refine s_al hS rfl rfl rfl ?_
  intro b217 w hS
  replace hS : Sat w K168 (flat ([(b217, Cl [(.string ByteArray.empty), (.string ByteArray.empty), (.slice none 0 0), (.int .i64 0), (.slice none 0 0), (.slice none 0 0)] 81)] :: _)) := hS
  refine s_st (cs' := [(.string (⟨#[69, 114, 114]⟩ : ByteArray)), (.string (⟨#[70, 97, 117, 108, 116]⟩ : ByteArray)), (.slice none 0 0), (.int .i64 x208), (.slice none 0 0), (.slice none 0 0)]) 0 hS rfl rfl rfl rfl rfl ?_
  intro w hS
  replace hS : Sat w _ (flat [_, _, _, _, _, _, _, _, _, _, _, _]) := hS
  refine s_nil (qn ?_)
  replace hS : Sat w K168 (flat [_, _, _, _, _, _, _, _, _, _, _]) := (hS.sel [0, 2, 3, 4, 5, 6, 7, 8, 9, 10, 11] rfl)
  refine s_seq (s_reg ?_)
  refine s_v (v := (.agg #[(.string (⟨#[69, 114, 114, 50]⟩ : ByteArray)), (.string (⟨#[69, 114, 114]⟩ : ByteArray)), (.slice none 0 0), (.int .i64 1), (.slice none 0 0), (.slice none 0 0)])) rfl rfl rfl ?_
  refine s_al hS rfl rfl rfl ?_
  intro b219 w hS
  replace hS : Sat w K168 (flat ([(b219, Cl [(.string ByteArray.empty), (.string ByteArray.empty), (.slice none 0 0), (.int .i64 0), (.slice none 0 0), (.slice none 0 0)] 81)] :: _)) := hS
  refine s_st (cs' := [(.string (⟨#[69, 114, 114, 50]⟩ : ByteArray)), (.string (⟨#[69, 114, 114]⟩ : ByteArray)), (.slice none 0 0), (.int .i64 1), (.slice none 0 0), (.slice none 0 0)]) 0 hS rfl rfl rfl rfl rfl ?_
  intro w hS
  replace hS : Sat w _ (flat [_, _, _, _, _, _, _, _, _, _, _, _]) := hS
  refine s_nil (qn (s_seq (s_reg ?_)))
  obtain ⟨x221, hx222, hf⟩ := bs hf
  refine s_call isf46 hS.nilG (bonsaiseat_typ_spec hx222) rfl rfl rfl ?_
  rintro _ K223 C225 w hk224 rfl hS
  replace hS := hS.drop1
  refine s_bwc (cs := (vv63 x221)) hS rfl rfl rfl rfl rfl rfl rfl rfl rfl rfl ?_
  intro b226 w hS
  obtain ⟨x228, hx229, hf⟩ := bs hf
  refine s_call isf46 hS.nilG (bonsaiseat_typ_spec hx229) rfl rfl rfl ?_
  rintro _ K230 C232 w hk231 rfl hS
  replace hS := hS.drop1
  obtain ⟨x233, hx234, hf⟩ := bs hf
  refine s_call isf49 hS.nilG (bonsaiseat_of_spec hx234) rfl rfl rfl ?_
  rintro _ K235 C237 w hk236 rfl hS
  replace hS := hS.drop1
  obtain ⟨x238, hx239, hf⟩ := bs hf
  refine s_call isf50 hS.nilG (bonsaiseat_one_spec hx239) rfl rfl rfl ?_
  rintro _ K240 C242 w hk241 rfl hS
  replace hS := hS.drop1
  obtain ⟨x243, hx244, hf⟩ := bs hf
  refine s_call isf51 hS.nilG (bonsaiseat_at_spec hx244) rfl rfl rfl ?_
  rintro _ K245 C247 w hk246 rfl hS
  replace hS := hS.drop1
  obtain ⟨x248, hx249, hf⟩ := bs hf
  refine s_call isf50 hS.nilG (bonsaiseat_one_spec hx249) rfl rfl rfl ?_
  rintro _ K250 C252 w hk251 rfl hS
  replace hS := hS.drop1
  refine s_bwc (cs := ((vv77 x233) ++ ((vv77 x238) ++ ((vv77 x243) ++ ((vv77 x248) ++ []))))) hS rfl rfl rfl rfl rfl rfl rfl rfl rfl rfl ?_
  intro b253 w hS
  have h255 : OwnS 63 K250 (.slice (some ⟨b226, 0, none⟩) 1 1) [x221] [(b226, Cl (vv63 x221) 63)] := OwnS.lit ⟨(vv63 x221), _, rfl, rfl, rfl⟩ rfl rfl
  obtain ⟨K256, hk257, h258, hS⟩ := h255.freeze (hS.sel [1, 0, 2, 3, 4, 5, 6, 7, 8, 9, 10, 11, 12, 13] rfl)
  replace hS : Sat w _ (flat [_, _, _, _, _, _, _, _, _, _, _, _, _]) := hS
  have h259 : OwnS 77 K256 (.slice (some ⟨b253, 0, none⟩) 4 4) [x233, x238, x243, x248] [(b253, Cl ((vv77 x233) ++ ((vv77 x238) ++ ((vv77 x243) ++ ((vv77 x248) ++ [])))) 77)] := OwnS.lit ⟨(vv77 x233), _, rfl, rfl, ⟨(vv77 x238), _, rfl, rfl, ⟨(vv77 x243), _, rfl, rfl, ⟨(vv77 x248), _, rfl, rfl, rfl⟩⟩⟩⟩ rfl rfl
  obtain ⟨K260, hk261, h262, hS⟩ := h259.freeze (hS.sel [0, 1, 2, 3, 4, 5, 6, 7, 8, 9, 10, 11, 12] rfl)
  replace hS : Sat w _ (flat [_, _, _, _, _, _, _, _, _, _, _, _]) := hS
  obtain ⟨x263, hx264, hf⟩ := bs hf
  replace h258 := h258.mono hk261
  refine s_call isf48 hS.nilG (bonsaiseat_method_spec hx264 h258 h262) rfl rfl rfl ?_
  rintro _ K265 C267 w hk266 ⟨a268, c269, a271, c272, a274, c275, rfl, h270, h273, h276⟩ hS
  replace hS := hS.drop1
  refine s_bwc (cs := (vv67 x263 a268 c269 a271 c272 a274 c275)) hS rfl rfl rfl rfl rfl rfl rfl rfl rfl rfl ?_
  intro b277 w hS
  refine s_v (v := (.agg #[(.string (⟨#[71, 111, 110, 101]⟩ : ByteArray)), (.string (⟨#[65]⟩ : ByteArray)), (.slice none 0 0), (.int .i64 1), (.slice none 0 0), (.slice (some ⟨b277, 0, none⟩) 1 1)])) rfl rfl rfl ?_
  refine s_al hS rfl rfl rfl ?_
  intro b279 w hS
  replace hS : Sat w K265 (flat ([(b279, Cl [(.string ByteArray.empty), (.string ByteArray.empty), (.slice none 0 0), (.int .i64 0), (.slice none 0 0), (.slice none 0 0)] 81)] :: _)) := hS
  refine s_st (cs' := [(.string (⟨#[71, 111, 110, 101]⟩ : ByteArray)), (.string (⟨#[65]⟩ : ByteArray)), (.slice none 0 0), (.int .i64 1), (.slice none 0 0), (.slice (some ⟨b277, 0, none⟩) 1 1)]) 0 hS rfl rfl rfl rfl rfl ?_
  intro w hS
  replace hS : Sat w _ (flat [_, _, _, _, _, _, _, _, _, _, _, _, _, _]) := hS
  refine s_nil (qn (s_seq ?_))
  obtain ⟨s998, hst999, hf⟩ := bs hf
  have hkk2 := (((((((hk224.trans hk231).trans hk236).trans hk241).trans hk246).trans hk251).trans hk257).trans hk261).trans hk266
  refine s_cut1 (fun τ w => ∃ (K985 : KM) (a987 : Option Addr) (c988 : Nat) (C989 : Chunks) (b991 : Nat) (a994 : Option Addr) (c995 : Nat) (C996 : Chunks), τ = [(3, (.pointer (some ⟨b11, 0, none⟩))), (6, (.pointer (some ⟨b13, 0, none⟩))), (14, (.pointer (some ⟨b217, 0, none⟩))), (15, (.pointer (some ⟨b219, 0, none⟩))), (16, (.pointer (some ⟨b279, 0, none⟩))), (17, (.pointer (some ⟨b991, 0, none⟩)))] ∧ KM.le K K985 ∧ OwnS 67 K985 (.slice a987 ([x263].length) c988) [x263] C989 ∧ OwnS 81 K985 (.slice a994 s998.length c995) s998 C996 ∧ Sat w K985 (flat [[(b11, Cl (vv68 p1) 68)], [(b13, Cl [(.slice none 0 0)] 74)], [(b217, Cl [(.string (⟨#[69, 114, 114]⟩ : ByteArray)), (.string (⟨#[70, 97, 117, 108, 116]⟩ : ByteArray)), (.slice none 0 0), (.int .i64 x208), (.slice none 0 0), (.slice none 0 0)] 81)], [(b219, Cl [(.string (⟨#[69, 114, 114, 50]⟩ : ByteArray)), (.string (⟨#[69, 114, 114]⟩ : ByteArray)), (.slice none 0 0), (.int .i64 1), (.slice none 0 0), (.slice none 0 0)] 81)], [(b279, Cl [(.string (⟨#[71, 111, 110, 101]⟩ : ByteArray)), (.string (⟨#[65]⟩ : ByteArray)), (.slice none 0 0), (.int .i64 1), (.slice none 0 0), (.slice a987 ([x263].length) c988)] 81)], C989, [(b991, Cl [(.slice a994 s998.length c995)] 74)], C996, L])) (fun J hJ => ?_) ?_
  · replace hf := hst999
    refine d_start [4, 6, 8, 10] [] hS ?_
    intro w hS
    refine d_ld (v := (.agg #[(.string (⟨#[77, 97, 105, 110]⟩ : ByteArray)), (.string (⟨#[79, 98, 106, 101, 99, 116]⟩ : ByteArray)), (.slice none 0 0), (.int .i64 1), (.slice none 0 0), (.slice a97 s101.length c98)])) 0 1 (fun _ _ _ _ _ h => h) [4, 6, 8, 10] hS rfl rfl rfl rfl rfl (by kernel_rfl) rfl rfl ?_
    refine d_ld (v := (.agg #[(.string (⟨#[73]⟩ : ByteArray)), (.string (⟨#[79, 98, 106, 101, 99, 116]⟩ : ByteArray)), (.slice none 0 0), (.int .i64 4), (.slice none 0 0), (.slice a175 ([(api_Method.mk (⟨#[114, 117, 110]⟩ : ByteArray) [] (api_Type.mk x148.Kind x148.Class) false true 0 [] [])].length) c176)])) 1 2 (fun _ _ _ _ _ h => h) [4, 6, 8, 10] hS rfl rfl rfl rfl rfl (by kernel_rfl) rfl rfl ?_
    refine d_ld (v := (.agg #[(.string (⟨#[74]⟩ : ByteArray)), (.string (⟨#[79, 98, 106, 101, 99, 116]⟩ : ByteArray)), (.slice a180 ([(⟨#[73]⟩ : ByteArray)].length) c181), (.int .i64 4), (.slice none 0 0), (.slice a185 s189.length c186)])) 2 3 (fun _ _ _ _ _ h => h) [4, 6, 8, 10] hS rfl rfl rfl rfl rfl (by kernel_rfl) rfl rfl ?_
    refine d_ld (v := (.agg (vv68 p1).toArray)) 4 0 (fun _ _ _ _ _ h => h) [4, 6, 8, 10] hS rfl rfl rfl rfl rfl (by kernel_rfl) rfl rfl ?_
    refine d_ops [3, 5, 8] (by kernel_rfl) rfl (.cons ⟨rfl, (by kernel_rfl), fun X hX => ?_⟩ (.cons ⟨rfl, (by kernel_rfl), fun X hX => ?_⟩ (.cons ⟨rfl, (by kernel_rfl), fun X hX => ?_⟩ AllB.nil)))
    · have hlq := KM.le.refl K265
      refine s_bwc (cs := [(.string (⟨#[77, 97, 105, 110]⟩ : ByteArray)), (.string (⟨#[79, 98, 106, 101, 99, 116]⟩ : ByteArray)), (.slice none 0 0), (.int .i64 1), (.slice none 0 0), (.slice a97 s101.length c98), (.string (⟨#[73]⟩ : ByteArray)), (.string (⟨#[79, 98, 106, 101, 99, 116]⟩ : ByteArray)), (.slice none 0 0), (.int .i64 4), (.slice none 0 0), (.slice a175 ([(api_Method.mk (⟨#[114, 117, 110]⟩ : ByteArray) [] (api_Type.mk x148.Kind x148.Class) false true 0 [] [])].length) c176), (.string (⟨#[74]⟩ : ByteArray)), (.string (⟨#[79, 98, 106, 101, 99, 116]⟩ : ByteArray)), (.slice a180 ([(⟨#[73]⟩ : ByteArray)].length) c181), (.int .i64 4), (.slice none 0 0), (.slice a185 s189.length c186)]) hS rfl rfl rfl rfl rfl rfl rfl rfl rfl rfl ?_
      intro b1248 w hS
      refine d_go [5, 7, 9, 11] [5, 7, 9, 11] [] [] hX hS hlq rfl rfl trivial ?_
      refine d_ops [5, 8] (by kernel_rfl) rfl (.cons ⟨rfl, (by kernel_rfl), fun X hX => ?_⟩ (.cons ⟨rfl, (by kernel_rfl), fun X hX => ?_⟩ AllB.nil))
      · have hlq := KM.le.refl K265
        obtain ⟨x1250, hx1251, hf⟩ := bs hf
        refine s_call isf52 hS.nilG (bonsaiseat_family_spec hx1251) rfl rfl rfl ?_
        rintro _ K1252 C1254 w hk1253 ⟨a1255, c1256, rfl, h1257⟩ hS
        replace hS := hS.drop1
        replace hlq := hlq.trans hk1253
        refine d_go [5, 7, 9, 11] [5, 7, 9, 11] [] [] hX hS hlq rfl rfl trivial ?_
        refine d_ops [6, 8] (by kernel_rfl) rfl (.cons ⟨rfl, (by kernel_rfl), fun X hX => ?_⟩ (.cons ⟨rfl, (by kernel_rfl), fun X hX => ?_⟩ AllB.nil))
        · have hlq := KM.le.refl K1252
          replace h169 := h169.mono (hkk2.trans hk1253)
          obtain ⟨K1258, hk1259, h1260, hS⟩ := h169.freeze (hS.sel [8, 0, 1, 2, 3, 4, 5, 6, 7, 9, 10, 11, 12, 13, 14] rfl)
          replace hS : Sat w _ (flat [_, _, _, _, _, _, _, _, _, _, _, _, _, _]) := hS
          replace h174 := h174.mono ((hkk2.trans hk1253).trans hk1259)
          obtain ⟨K1261, hk1262, h1263, hS⟩ := h174.freeze (hS.sel [9, 0, 1, 2, 3, 4, 5, 6, 7, 8, 10, 11, 12, 13] rfl)
          replace hS : Sat w _ (flat [_, _, _, _, _, _, _, _, _, _, _, _, _]) := hS
          have hkk3 := ((hkk2.trans hk1253).trans hk1259).trans hk1262
          replace h179 := h179.mono hkk3
          obtain ⟨K1264, hk1265, h1266, hS⟩ := h179.freeze (hS.sel [10, 0, 1, 2, 3, 4, 5, 6, 7, 8, 9, 11, 12] rfl)
          replace hS : Sat w _ (flat [_, _, _, _, _, _, _, _, _, _, _, _]) := hS
          have hkk4 := hkk3.trans hk1265
          replace h184 := h184.mono hkk4
          obtain ⟨K1267, hk1268, h1269, hS⟩ := h184.freeze (hS.sel [10, 0, 1, 2, 3, 4, 5, 6, 7, 8, 9, 11] rfl)
          replace hS : Sat w _ (flat [_, _, _, _, _, _, _, _, _, _, _]) := hS
          replace h1260 := h1260.mono ((hk1262.trans hk1265).trans hk1268)
          replace h1263 := h1263.mono (hk1265.trans hk1268)
          replace h1266 := h1266.mono hk1268
          have h1270 : OwnS 81 K1267 (.slice (some ⟨b1248, 0, none⟩) 3 3) [(api_Class.mk (⟨#[77, 97, 105, 110]⟩ : ByteArray) (⟨#[79, 98, 106, 101, 99, 116]⟩ : ByteArray) [] 1 [] s101), (api_Class.mk (⟨#[73]⟩ : ByteArray) (⟨#[79, 98, 106, 101, 99, 116]⟩ : ByteArray) [] 4 [] [(api_Method.mk (⟨#[114, 117, 110]⟩ : ByteArray) [] (api_Type.mk x148.Kind x148.Class) false true 0 [] [])]), (api_Class.mk (⟨#[74]⟩ : ByteArray) (⟨#[79, 98, 106, 101, 99, 116]⟩ : ByteArray) [(⟨#[73]⟩ : ByteArray)] 4 [] s189)] [(b1248, Cl [(.string (⟨#[77, 97, 105, 110]⟩ : ByteArray)), (.string (⟨#[79, 98, 106, 101, 99, 116]⟩ : ByteArray)), (.slice none 0 0), (.int .i64 1), (.slice none 0 0), (.slice a97 s101.length c98), (.string (⟨#[73]⟩ : ByteArray)), (.string (⟨#[79, 98, 106, 101, 99, 116]⟩ : ByteArray)), (.slice none 0 0), (.int .i64 4), (.slice none 0 0), (.slice a175 ([(api_Method.mk (⟨#[114, 117, 110]⟩ : ByteArray) [] (api_Type.mk x148.Kind x148.Class) false true 0 [] [])].length) c176), (.string (⟨#[74]⟩ : ByteArray)), (.string (⟨#[79, 98, 106, 101, 99, 116]⟩ : ByteArray)), (.slice a180 ([(⟨#[73]⟩ : ByteArray)].length) c181), (.int .i64 4), (.slice none 0 0), (.slice a185 s189.length c186)] 81)] := OwnS.lit ⟨[(.string (⟨#[77, 97, 105, 110]⟩ : ByteArray)), (.string (⟨#[79, 98, 106, 101, 99, 116]⟩ : ByteArray)), (.slice none 0 0), (.int .i64 1), (.slice none 0 0), (.slice a97 s101.length c98)], _, rfl, ⟨none, 0, none, 0, a97, c98, rfl, SlK.nil, SlK.nil, h1260⟩, ⟨[(.string (⟨#[73]⟩ : ByteArray)), (.string (⟨#[79, 98, 106, 101, 99, 116]⟩ : ByteArray)), (.slice none 0 0), (.int .i64 4), (.slice none 0 0), (.slice a175 ([(api_Method.mk (⟨#[114, 117, 110]⟩ : ByteArray) [] (api_Type.mk x148.Kind x148.Class) false true 0 [] [])].length) c176)], _, rfl, ⟨none, 0, none, 0, a175, c176, rfl, SlK.nil, SlK.nil, h1263⟩, ⟨[(.string (⟨#[74]⟩ : ByteArray)), (.string (⟨#[79, 98, 106, 101, 99, 116]⟩ : ByteArray)), (.slice a180 ([(⟨#[73]⟩ : ByteArray)].length) c181), (.int .i64 4), (.slice none 0 0), (.slice a185 s189.length c186)], _, rfl, ⟨a180, c181, none, 0, a185, c186, rfl, h1266, SlK.nil, h1269⟩, rfl⟩⟩⟩ rfl rfl
          obtain ⟨hm1271, hf⟩ := gs hf
          have hkk5 := ((hk1259.trans hk1262).trans hk1265).trans hk1268
          replace h1257 := h1257.mono hkk5
          refine s_appk (e := 81) 0 hS rfl h1270 h1257 rfl rfl rfl rfl rfl rfl rfl (roomy_le hm1271) rfl rfl rfl ?_
          intro a1272 c1273 w C1274 h1275 hS
          replace hS : Sat w _ (flat [_, _, _, _, _, _, _, _, _, _, _]) := hS
          replace hlq := hlq.trans hkk5
          refine d_go [5, 7, 8, 9] [5, 7, 8, 9] [] [] hX hS hlq rfl rfl trivial ?_
          refine d_v (v := (.agg #[(.slice a1272 (([(api_Class.mk (⟨#[77, 97, 105, 110]⟩ : ByteArray) (⟨#[79, 98, 106, 101, 99, 116]⟩ : ByteArray) [] 1 [] s101), (api_Class.mk (⟨#[73]⟩ : ByteArray) (⟨#[79, 98, 106, 101, 99, 116]⟩ : ByteArray) [] 4 [] [(api_Method.mk (⟨#[114, 117, 110]⟩ : ByteArray) [] (api_Type.mk x148.Kind x148.Class) false true 0 [] [])]), (api_Class.mk (⟨#[74]⟩ : ByteArray) (⟨#[79, 98, 106, 101, 99, 116]⟩ : ByteArray) [(⟨#[73]⟩ : ByteArray)] 4 [] s189)] ++ x1250).length) c1273)])) 7 (fun _ _ _ _ _ h => h) [5, 7, 8, 9] hS rfl rfl rfl (by kernel_rfl) rfl rfl ?_
          refine d_op 8 rfl (by kernel_rfl) (by kernel_rfl) (fun X hX => ?_)
          have hlq := KM.le.refl K1267
          refine s_al hS rfl rfl rfl ?_
          intro b1276 w hS
          replace hS : Sat w K1267 (flat ([(b1276, Cl [(.slice none 0 0)] 74)] :: _)) := hS
          refine d_go [6, 8, 9, 10] [6, 8, 9, 10] [] [] hX hS hlq rfl rfl trivial ?_
          refine d_op 9 rfl (by kernel_rfl) (by kernel_rfl) (fun X hX => ?_)
          have hlq := KM.le.refl K1267
          refine s_st (cs' := [(.slice a1272 (([(api_Class.mk (⟨#[77, 97, 105, 110]⟩ : ByteArray) (⟨#[79, 98, 106, 101, 99, 116]⟩ : ByteArray) [] 1 [] s101), (api_Class.mk (⟨#[73]⟩ : ByteArray) (⟨#[79, 98, 106, 101, 99, 116]⟩ : ByteArray) [] 4 [] [(api_Method.mk (⟨#[114, 117, 110]⟩ : ByteArray) [] (api_Type.mk x148.Kind x148.Class) false true 0 [] [])]), (api_Class.mk (⟨#[74]⟩ : ByteArray) (⟨#[79, 98, 106, 101, 99, 116]⟩ : ByteArray) [(⟨#[73]⟩ : ByteArray)] 4 [] s189)] ++ x1250).length) c1273)]) 0 hS rfl rfl rfl rfl rfl ?_
          intro w hS
          replace hS : Sat w _ (flat [_, _, _, _, _, _, _, _, _, _, _, _]) := hS
          refine d_go [6, 8, 9, 10] [6, 8, 9, 10] [] [] hX hS hlq rfl rfl trivial ?_
          refine d_end (by kernel_rfl) ?_
          refine qn ?_
          have hkk6 := (((hk1253.trans hk1259).trans hk1262).trans hk1265).trans hk1268
          replace h270 := h270.mono hkk6
          replace h273 := h273.mono hkk6
          replace h276 := h276.mono hkk6
          have h1278 : OwnS 67 K1267 (.slice (some ⟨b277, 0, none⟩) 1 1) [x263] [(b277, Cl (vv67 x263 a268 c269 a271 c272 a274 c275) 67)] := OwnS.lit ⟨(vv67 x263 a268 c269 a271 c272 a274 c275), _, rfl, ⟨a268, c269, a271, c272, a274, c275, rfl, h270, h273, h276⟩, rfl⟩ rfl rfl
          have hq := Option.some.inj hf
          subst hq
          have hkk7 := hkk4.trans hk1268
          replace hle := hle.trans hkk7
          refine s_join hJ _ ⟨K1267, (some ⟨b277, 0, none⟩), 1, [(b277, Cl (vv67 x263 a268 c269 a271 c272 a274 c275) 67)], b1276, a1272, c1273, C1274, rfl, hle, h1278, h1275, (hS.sel [6, 7, 5, 4, 2, 3, 0, 1, 11] rfl)⟩ ⟨rfl, rfl, rfl, rfl, rfl, rfl, trivial⟩
        obtain ⟨hm1271, hf⟩ := gs hf
        replace hf : (guardB (roomy [(api_Class.mk (⟨#[77, 97, 105, 110]⟩ : ByteArray) (⟨#[79, 98, 106, 101, 99, 116]⟩ : ByteArray) [] 1 [] s101), (api_Class.mk (⟨#[73]⟩ : ByteArray) (⟨#[79, 98, 106, 101, 99, 116]⟩ : ByteArray) [] 4 [] [(api_Method.mk (⟨#[114, 117, 110]⟩ : ByteArray) [] (api_Type.mk x148.Kind x148.Class) false true 0 [] [])]), (api_Class.mk (⟨#[74]⟩ : ByteArray) (⟨#[79, 98, 106, 101, 99, 116]⟩ : ByteArray) [(⟨#[73]⟩ : ByteArray)] 4 [] s189)].length x1250.length 112) (some ([(api_Class.mk (⟨#[77, 97, 105, 110]⟩ : ByteArray) (⟨#[79, 98, 106, 101, 99, 116]⟩ : ByteArray) [] 1 [] s101), (api_Class.mk (⟨#[73]⟩ : ByteArray) (⟨#[79, 98, 106, 101, 99, 116]⟩ : ByteArray) [] 4 [] [(api_Method.mk (⟨#[114, 117, 110]⟩ : ByteArray) [] (api_Type.mk x148.Kind x148.Class) false true 0 [] [])]), (api_Class.mk (⟨#[74]⟩ : ByteArray) (⟨#[79, 98, 106, 101, 99, 116]⟩ : ByteArray) [(⟨#[73]⟩ : ByteArray)] 4 [] s189)] ++ x1250))) = _ := Eq.trans (by simp only [hm1271, guardB, cond_true, Option.bind_some]) hf
        have hlq := KM.le.refl K1252
        refine s_al hS rfl rfl rfl ?_
        intro b1279 w hS
        replace hS : Sat w K1252 (flat ([(b1279, Cl [(.slice none 0 0)] 74)] :: _)) := hS
        refine d_go [6, 8, 10, 12] [6, 8, 10, 12] [] [] hX hS hlq rfl rfl trivial ?_
        refine d_op 6 rfl (by kernel_rfl) (by kernel_rfl) (fun X hX => ?_)
        have hlq := KM.le.refl K1252
        replace h169 := h169.mono (hkk2.trans hk1253)
        obtain ⟨K1281, hk1282, h1283, hS⟩ := h169.freeze (hS.sel [9, 0, 1, 2, 3, 4, 5, 6, 7, 8, 10, 11, 12, 13, 14, 15] rfl)
        replace hS : Sat w _ (flat [_, _, _, _, _, _, _, _, _, _, _, _, _, _, _]) := hS
        replace h174 := h174.mono ((hkk2.trans hk1253).trans hk1282)
        obtain ⟨K1284, hk1285, h1286, hS⟩ := h174.freeze (hS.sel [10, 0, 1, 2, 3, 4, 5, 6, 7, 8, 9, 11, 12, 13, 14] rfl)
        replace hS : Sat w _ (flat [_, _, _, _, _, _, _, _, _, _, _, _, _, _]) := hS
        have hkk8 := ((hkk2.trans hk1253).trans hk1282).trans hk1285
        replace h179 := h179.mono hkk8
        obtain ⟨K1287, hk1288, h1289, hS⟩ := h179.freeze (hS.sel [11, 0, 1, 2, 3, 4, 5, 6, 7, 8, 9, 10, 12, 13] rfl)
        replace hS : Sat w _ (flat [_, _, _, _, _, _, _, _, _, _, _, _, _]) := hS
        have hkk9 := hkk8.trans hk1288
        replace h184 := h184.mono hkk9
        obtain ⟨K1290, hk1291, h1292, hS⟩ := h184.freeze (hS.sel [11, 0, 1, 2, 3, 4, 5, 6, 7, 8, 9, 10, 12] rfl)
        replace hS : Sat w _ (flat [_, _, _, _, _, _, _, _, _, _, _, _]) := hS
        replace h1283 := h1283.mono ((hk1285.trans hk1288).trans hk1291)
        replace h1286 := h1286.mono (hk1288.trans hk1291)
        replace h1289 := h1289.mono hk1291
        have h1293 : OwnS 81 K1290 (.slice (some ⟨b1248, 0, none⟩) 3 3) [(api_Class.mk (⟨#[77, 97, 105, 110]⟩ : ByteArray) (⟨#[79, 98, 106, 101, 99, 116]⟩ : ByteArray) [] 1 [] s101), (api_Class.mk (⟨#[73]⟩ : ByteArray) (⟨#[79, 98, 106, 101, 99, 116]⟩ : ByteArray) [] 4 [] [(api_Method.mk (⟨#[114, 117, 110]⟩ : ByteArray) [] (api_Type.mk x148.Kind x148.Class) false true 0 [] [])]), (api_Class.mk (⟨#[74]⟩ : ByteArray) (⟨#[79, 98, 106, 101, 99, 116]⟩ : ByteArray) [(⟨#[73]⟩ : ByteArray)] 4 [] s189)] [(b1248, Cl [(.string (⟨#[77, 97, 105, 110]⟩ : ByteArray)), (.string (⟨#[79, 98, 106, 101, 99, 116]⟩ : ByteArray)), (.slice none 0 0), (.int .i64 1), (.slice none 0 0), (.slice a97 s101.length c98), (.string (⟨#[73]⟩ : ByteArray)), (.string (⟨#[79, 98, 106, 101, 99, 116]⟩ : ByteArray)), (.slice none 0 0), (.int .i64 4), (.slice none 0 0), (.slice a175 ([(api_Method.mk (⟨#[114, 117, 110]⟩ : ByteArray) [] (api_Type.mk x148.Kind x148.Class) false true 0 [] [])].length) c176), (.string (⟨#[74]⟩ : ByteArray)), (.string (⟨#[79, 98, 106, 101, 99, 116]⟩ : ByteArray)), (.slice a180 ([(⟨#[73]⟩ : ByteArray)].length) c181), (.int .i64 4), (.slice none 0 0), (.slice a185 s189.length c186)] 81)] := OwnS.lit ⟨[(.string (⟨#[77, 97, 105, 110]⟩ : ByteArray)), (.string (⟨#[79, 98, 106, 101, 99, 116]⟩ : ByteArray)), (.slice none 0 0), (.int .i64 1), (.slice none 0 0), (.slice a97 s101.length c98)], _, rfl, ⟨none, 0, none, 0, a97, c98, rfl, SlK.nil, SlK.nil, h1283⟩, ⟨[(.string (⟨#[73]⟩ : ByteArray)), (.string (⟨#[79, 98, 106, 101, 99, 116]⟩ : ByteArray)), (.slice none 0 0), (.int .i64 4), (.slice none 0 0), (.slice a175 ([(api_Method.mk (⟨#[114, 117, 110]⟩ : ByteArray) [] (api_Type.mk x148.Kind x148.Class) false true 0 [] [])].length) c176)], _, rfl, ⟨none, 0, none, 0, a175, c176, rfl, SlK.nil, SlK.nil, h1286⟩, ⟨[(.string (⟨#[74]⟩ : ByteArray)), (.string (⟨#[79, 98, 106, 101, 99, 116]⟩ : ByteArray)), (.slice a180 ([(⟨#[73]⟩ : ByteArray)].length) c181), (.int .i64 4), (.slice none 0 0), (.slice a185 s189.length c186)], _, rfl, ⟨a180, c181, none, 0, a185, c186, rfl, h1289, SlK.nil, h1292⟩, rfl⟩⟩⟩ rfl rfl
        obtain ⟨hm1294, hf⟩ := gs hf
        have hkk10 := ((hk1282.trans hk1285).trans hk1288).trans hk1291
        replace h1257 := h1257.mono hkk10
        refine s_appk (e := 81) 1 hS rfl h1293 h1257 rfl rfl rfl rfl rfl rfl rfl (roomy_le hm1294) rfl rfl rfl ?_
        intro a1295 c1296 w C1297 h1298 hS
        replace hS : Sat w _ (flat [_, _, _, _, _, _, _, _, _, _, _, _]) := hS
        replace hlq := hlq.trans hkk10
        refine d_go [6, 8, 9, 10] [6, 8, 9, 10] [] [] hX hS hlq rfl rfl trivial ?_
        refine d_v (v := (.agg #[(.slice a1295 (([(api_Class.mk (⟨#[77, 97, 105, 110]⟩ : ByteArray) (⟨#[79, 98, 106, 101, 99, 116]⟩ : ByteArray) [] 1 [] s101), (api_Class.mk (⟨#[73]⟩ : ByteArray) (⟨#[79, 98, 106, 101, 99, 116]⟩ : ByteArray) [] 4 [] [(api_Method.mk (⟨#[114, 117, 110]⟩ : ByteArray) [] (api_Type.mk x148.Kind x148.Class) false true 0 [] [])]), (api_Class.mk (⟨#[74]⟩ : ByteArray) (⟨#[79, 98, 106, 101, 99, 116]⟩ : ByteArray) [(⟨#[73]⟩ : ByteArray)] 4 [] s189)] ++ x1250).length) c1296)])) 7 (fun _ _ _ _ _ h => h) [6, 8, 9, 10] hS rfl rfl rfl (by kernel_rfl) rfl rfl ?_
        refine d_op 9 rfl (by kernel_rfl) (by kernel_rfl) (fun X hX => ?_)
        have hlq := KM.le.refl K1290
        refine s_st (cs' := [(.slice a1295 (([(api_Class.mk (⟨#[77, 97, 105, 110]⟩ : ByteArray) (⟨#[79, 98, 106, 101, 99, 116]⟩ : ByteArray) [] 1 [] s101), (api_Class.mk (⟨#[73]⟩ : ByteArray) (⟨#[79, 98, 106, 101, 99, 116]⟩ : ByteArray) [] 4 [] [(api_Method.mk (⟨#[114, 117, 110]⟩ : ByteArray) [] (api_Type.mk x148.Kind x148.Class) false true 0 [] [])]), (api_Class.mk (⟨#[74]⟩ : ByteArray) (⟨#[79, 98, 106, 101, 99, 116]⟩ : ByteArray) [(⟨#[73]⟩ : ByteArray)] 4 [] s189)] ++ x1250).length) c1296)]) 0 hS rfl rfl rfl rfl rfl ?_
        intro w hS
        replace hS : Sat w _ (flat [_, _, _, _, _, _, _, _, _, _, _, _]) := hS
        refine d_go [6, 8, 9, 10] [6, 8, 9, 10] [] [] hX hS hlq rfl rfl trivial ?_
        refine d_end (by kernel_rfl) ?_
        refine qn ?_
        have hkk11 := (((hk1253.trans hk1282).trans hk1285).trans hk1288).trans hk1291
        replace h270 := h270.mono hkk11
        replace h273 := h273.mono hkk11
        replace h276 := h276.mono hkk11
        have h1299 : OwnS 67 K1290 (.slice (some ⟨b277, 0, none⟩) 1 1) [x263] [(b277, Cl (vv67 x263 a268 c269 a271 c272 a274 c275) 67)] := OwnS.lit ⟨(vv67 x263 a268 c269 a271 c272 a274 c275), _, rfl, ⟨a268, c269, a271, c272, a274, c275, rfl, h270, h273, h276⟩, rfl⟩ rfl rfl
        have hq := Option.some.inj hf
        subst hq
        have hkk12 := hkk9.trans hk1291
        replace hle := hle.trans hkk12
        refine s_join hJ _ ⟨K1290, (some ⟨b277, 0, none⟩), 1, [(b277, Cl (vv67 x263 a268 c269 a271 c272 a274 c275) 67)], b1279, a1295, c1296, C1297, rfl, hle, h1299, h1298, (hS.sel [6, 7, 5, 4, 2, 3, 0, 1, 11] rfl)⟩ ⟨rfl, rfl, rfl, rfl, rfl, rfl, trivial⟩
      obtain ⟨x1250, hx1251, hf⟩ := bs hf
      obtain ⟨hm1271, hf⟩ := gs hf
      replace hf : ((bonsaiseat_family.fn p1).bind fun x1302 => guardB (roomy [(api_Class.mk (⟨#[77, 97, 105, 110]⟩ : ByteArray) (⟨#[79, 98, 106, 101, 99, 116]⟩ : ByteArray) [] 1 [] s101), (api_Class.mk (⟨#[73]⟩ : ByteArray) (⟨#[79, 98, 106, 101, 99, 116]⟩ : ByteArray) [] 4 [] [(api_Method.mk (⟨#[114, 117, 110]⟩ : ByteArray) [] (api_Type.mk x148.Kind x148.Class) false true 0 [] [])]), (api_Class.mk (⟨#[74]⟩ : ByteArray) (⟨#[79, 98, 106, 101, 99, 116]⟩ : ByteArray) [(⟨#[73]⟩ : ByteArray)] 4 [] s189)].length x1302.length 112) (some ([(api_Class.mk (⟨#[77, 97, 105, 110]⟩ : ByteArray) (⟨#[79, 98, 106, 101, 99, 116]⟩ : ByteArray) [] 1 [] s101), (api_Class.mk (⟨#[73]⟩ : ByteArray) (⟨#[79, 98, 106, 101, 99, 116]⟩ : ByteArray) [] 4 [] [(api_Method.mk (⟨#[114, 117, 110]⟩ : ByteArray) [] (api_Type.mk x148.Kind x148.Class) false true 0 [] [])]), (api_Class.mk (⟨#[74]⟩ : ByteArray) (⟨#[79, 98, 106, 101, 99, 116]⟩ : ByteArray) [(⟨#[73]⟩ : ByteArray)] 4 [] s189)] ++ x1302))) = _ := Eq.trans (by simp only [hx1251, hm1271, guardB, cond_true, Option.bind_some]) hf
      have hlq := KM.le.refl K265
      refine s_al hS rfl rfl rfl ?_
      intro b1300 w hS
      replace hS : Sat w K265 (flat ([(b1300, Cl [(.slice none 0 0)] 74)] :: _)) := hS
      refine d_go [6, 8, 10, 12] [6, 8, 10, 12] [] [] hX hS hlq rfl rfl trivial ?_
      refine d_op 5 rfl (by kernel_rfl) (by kernel_rfl) (fun X hX => ?_)
      have hlq := KM.le.refl K265
      obtain ⟨x1302, hx1303, hf⟩ := bs hf
      refine s_call isf52 hS.nilG (bonsaiseat_family_spec hx1303) rfl rfl rfl ?_
      rintro _ K1304 C1306 w hk1305 ⟨a1307, c1308, rfl, h1309⟩ hS
      replace hS := hS.drop1
      replace hlq := hlq.trans hk1305
      refine d_go [6, 8, 10, 12] [6, 8, 10, 12] [] [] hX hS hlq rfl rfl trivial ?_
      refine d_op 6 rfl (by kernel_rfl) (by kernel_rfl) (fun X hX => ?_)
      have hlq := KM.le.refl K1304
      replace h169 := h169.mono (hkk2.trans hk1305)
      obtain ⟨K1310, hk1311, h1312, hS⟩ := h169.freeze (hS.sel [9, 0, 1, 2, 3, 4, 5, 6, 7, 8, 10, 11, 12, 13, 14, 15] rfl)
      replace hS : Sat w _ (flat [_, _, _, _, _, _, _, _, _, _, _, _, _, _, _]) := hS
      replace h174 := h174.mono ((hkk2.trans hk1305).trans hk1311)
      obtain ⟨K1313, hk1314, h1315, hS⟩ := h174.freeze (hS.sel [10, 0, 1, 2, 3, 4, 5, 6, 7, 8, 9, 11, 12, 13, 14] rfl)
      replace hS : Sat w _ (flat [_, _, _, _, _, _, _, _, _, _, _, _, _, _]) := hS
      have hkk13 := ((hkk2.trans hk1305).trans hk1311).trans hk1314
      replace h179 := h179.mono hkk13
      obtain ⟨K1316, hk1317, h1318, hS⟩ := h179.freeze (hS.sel [11, 0, 1, 2, 3, 4, 5, 6, 7, 8, 9, 10, 12, 13] rfl)
      replace hS : Sat w _ (flat [_, _, _, _, _, _, _, _, _, _, _, _, _]) := hS
      have hkk14 := hkk13.trans hk1317
      replace h184 := h184.mono hkk14
      obtain ⟨K1319, hk1320, h1321, hS⟩ := h184.freeze (hS.sel [11, 0, 1, 2, 3, 4, 5, 6, 7, 8, 9, 10, 12] rfl)
      replace hS : Sat w _ (flat [_, _, _, _, _, _, _, _, _, _, _, _]) := hS
      replace h1312 := h1312.mono ((hk1314.trans hk1317).trans hk1320)
      replace h1315 := h1315.mono (hk1317.trans hk1320)
      replace h1318 := h1318.mono hk1320
      have h1322 : OwnS 81 K1319 (.slice (some ⟨b1248, 0, none⟩) 3 3) [(api_Class.mk (⟨#[77, 97, 105, 110]⟩ : ByteArray) (⟨#[79, 98, 106, 101, 99, 116]⟩ : ByteArray) [] 1 [] s101), (api_Class.mk (⟨#[73]⟩ : ByteArray) (⟨#[79, 98, 106, 101, 99, 116]⟩ : ByteArray) [] 4 [] [(api_Method.mk (⟨#[114, 117, 110]⟩ : ByteArray) [] (api_Type.mk x148.Kind x148.Class) false true 0 [] [])]), (api_Class.mk (⟨#[74]⟩ : ByteArray) (⟨#[79, 98, 106, 101, 99, 116]⟩ : ByteArray) [(⟨#[73]⟩ : ByteArray)] 4 [] s189)] [(b1248, Cl [(.string (⟨#[77, 97, 105, 110]⟩ : ByteArray)), (.string (⟨#[79, 98, 106, 101, 99, 116]⟩ : ByteArray)), (.slice none 0 0), (.int .i64 1), (.slice none 0 0), (.slice a97 s101.length c98), (.string (⟨#[73]⟩ : ByteArray)), (.string (⟨#[79, 98, 106, 101, 99, 116]⟩ : ByteArray)), (.slice none 0 0), (.int .i64 4), (.slice none 0 0), (.slice a175 ([(api_Method.mk (⟨#[114, 117, 110]⟩ : ByteArray) [] (api_Type.mk x148.Kind x148.Class) false true 0 [] [])].length) c176), (.string (⟨#[74]⟩ : ByteArray)), (.string (⟨#[79, 98, 106, 101, 99, 116]⟩ : ByteArray)), (.slice a180 ([(⟨#[73]⟩ : ByteArray)].length) c181), (.int .i64 4), (.slice none 0 0), (.slice a185 s189.length c186)] 81)] := OwnS.lit ⟨[(.string (⟨#[77, 97, 105, 110]⟩ : ByteArray)), (.string (⟨#[79, 98, 106, 101, 99, 116]⟩ : ByteArray)), (.slice none 0 0), (.int .i64 1), (.slice none 0 0), (.slice a97 s101.length c98)], _, rfl, ⟨none, 0, none, 0, a97, c98, rfl, SlK.nil, SlK.nil, h1312⟩, ⟨[(.string (⟨#[73]⟩ : ByteArray)), (.string (⟨#[79, 98, 106, 101, 99, 116]⟩ : ByteArray)), (.slice none 0 0), (.int .i64 4), (.slice none 0 0), (.slice a175 ([(api_Method.mk (⟨#[114, 117, 110]⟩ : ByteArray) [] (api_Type.mk x148.Kind x148.Class) false true 0 [] [])].length) c176)], _, rfl, ⟨none, 0, none, 0, a175, c176, rfl, SlK.nil, SlK.nil, h1315⟩, ⟨[(.string (⟨#[74]⟩ : ByteArray)), (.string (⟨#[79, 98, 106, 101, 99, 116]⟩ : ByteArray)), (.slice a180 ([(⟨#[73]⟩ : ByteArray)].length) c181), (.int .i64 4), (.slice none 0 0), (.slice a185 s189.length c186)], _, rfl, ⟨a180, c181, none, 0, a185, c186, rfl, h1318, SlK.nil, h1321⟩, rfl⟩⟩⟩ rfl rfl
      obtain ⟨hm1323, hf⟩ := gs hf
      have hkk15 := ((hk1311.trans hk1314).trans hk1317).trans hk1320
      replace h1309 := h1309.mono hkk15
      refine s_appk (e := 81) 1 hS rfl h1322 h1309 rfl rfl rfl rfl rfl rfl rfl (roomy_le hm1323) rfl rfl rfl ?_
      intro a1324 c1325 w C1326 h1327 hS
      replace hS : Sat w _ (flat [_, _, _, _, _, _, _, _, _, _, _, _]) := hS
      replace hlq := hlq.trans hkk15
      refine d_go [6, 8, 9, 10] [6, 8, 9, 10] [] [] hX hS hlq rfl rfl trivial ?_
      refine d_v (v := (.agg #[(.slice a1324 (([(api_Class.mk (⟨#[77, 97, 105, 110]⟩ : ByteArray) (⟨#[79, 98, 106, 101, 99, 116]⟩ : ByteArray) [] 1 [] s101), (api_Class.mk (⟨#[73]⟩ : ByteArray) (⟨#[79, 98, 106, 101, 99, 116]⟩ : ByteArray) [] 4 [] [(api_Method.mk (⟨#[114, 117, 110]⟩ : ByteArray) [] (api_Type.mk x148.Kind x148.Class) false true 0 [] [])]), (api_Class.mk (⟨#[74]⟩ : ByteArray) (⟨#[79, 98, 106, 101, 99, 116]⟩ : ByteArray) [(⟨#[73]⟩ : ByteArray)] 4 [] s189)] ++ x1302).length) c1325)])) 7 (fun _ _ _ _ _ h => h) [6, 8, 9, 10] hS rfl rfl rfl (by kernel_rfl) rfl rfl ?_
      refine d_op 9 rfl (by kernel_rfl) (by kernel_rfl) (fun X hX => ?_)
      have hlq := KM.le.refl K1319
      refine s_st (cs' := [(.slice a1324 (([(api_Class.mk (⟨#[77, 97, 105, 110]⟩ : ByteArray) (⟨#[79, 98, 106, 101, 99, 116]⟩ : ByteArray) [] 1 [] s101), (api_Class.mk (⟨#[73]⟩ : ByteArray) (⟨#[79, 98, 106, 101, 99, 116]⟩ : ByteArray) [] 4 [] [(api_Method.mk (⟨#[114, 117, 110]⟩ : ByteArray) [] (api_Type.mk x148.Kind x148.Class) false true 0 [] [])]), (api_Class.mk (⟨#[74]⟩ : ByteArray) (⟨#[79, 98, 106, 101, 99, 116]⟩ : ByteArray) [(⟨#[73]⟩ : ByteArray)] 4 [] s189)] ++ x1302).length) c1325)]) 0 hS rfl rfl rfl rfl rfl ?_
      intro w hS
      replace hS : Sat w _ (flat [_, _, _, _, _, _, _, _, _, _, _, _]) := hS
      refine d_go [6, 8, 9, 10] [6, 8, 9, 10] [] [] hX hS hlq rfl rfl trivial ?_
      refine d_end (by kernel_rfl) ?_
      refine qn ?_
      have hkk16 := (((hk1305.trans hk1311).trans hk1314).trans hk1317).trans hk1320
      replace h270 := h270.mono hkk16
      replace h273 := h273.mono hkk16
      replace h276 := h276.mono hkk16
      have h1328 : OwnS 67 K1319 (.slice (some ⟨b277, 0, none⟩) 1 1) [x263] [(b277, Cl (vv67 x263 a268 c269 a271 c272 a274 c275) 67)] := OwnS.lit ⟨(vv67 x263 a268 c269 a271 c272 a274 c275), _, rfl, ⟨a268, c269, a271, c272, a274, c275, rfl, h270, h273, h276⟩, rfl⟩ rfl rfl
      have hq := Option.some.inj hf
      subst hq
      have hkk17 := hkk14.trans hk1320
      replace hle := hle.trans hkk17
      refine s_join hJ _ ⟨K1319, (some ⟨b277, 0, none⟩), 1, [(b277, Cl (vv67 x263 a268 c269 a271 c272 a274 c275) 67)], b1300, a1324, c1325, C1326, rfl, hle, h1328, h1327, (hS.sel [6, 7, 5, 4, 2, 3, 0, 1, 11] rfl)⟩ ⟨rfl, rfl, rfl, rfl, rfl, rfl, trivial⟩
    · obtain ⟨x1250, hx1251, hf⟩ := bs hf
      obtain ⟨hm1271, hf⟩ := gs hf
      replace hf : ((bonsaiseat_family.fn p1).bind fun x1329 => guardB (roomy [(api_Class.mk (⟨#[77, 97, 105, 110]⟩ : ByteArray) (⟨#[79, 98, 106, 101, 99, 116]⟩ : ByteArray) [] 1 [] s101), (api_Class.mk (⟨#[73]⟩ : ByteArray) (⟨#[79, 98, 106, 101, 99, 116]⟩ : ByteArray) [] 4 [] [(api_Method.mk (⟨#[114, 117, 110]⟩ : ByteArray) [] (api_Type.mk x148.Kind x148.Class) false true 0 [] [])]), (api_Class.mk (⟨#[74]⟩ : ByteArray) (⟨#[79, 98, 106, 101, 99, 116]⟩ : ByteArray) [(⟨#[73]⟩ : ByteArray)] 4 [] s189)].length x1329.length 112) (some ([(api_Class.mk (⟨#[77, 97, 105, 110]⟩ : ByteArray) (⟨#[79, 98, 106, 101, 99, 116]⟩ : ByteArray) [] 1 [] s101), (api_Class.mk (⟨#[73]⟩ : ByteArray) (⟨#[79, 98, 106, 101, 99, 116]⟩ : ByteArray) [] 4 [] [(api_Method.mk (⟨#[114, 117, 110]⟩ : ByteArray) [] (api_Type.mk x148.Kind x148.Class) false true 0 [] [])]), (api_Class.mk (⟨#[74]⟩ : ByteArray) (⟨#[79, 98, 106, 101, 99, 116]⟩ : ByteArray) [(⟨#[73]⟩ : ByteArray)] 4 [] s189)] ++ x1329))) = _ := Eq.trans (by simp only [hx1251, hm1271, guardB, cond_true, Option.bind_some]) hf
      have hlq := KM.le.refl K265
      obtain ⟨x1329, hx1330, hf⟩ := bs hf
      refine s_call isf52 hS.nilG (bonsaiseat_family_spec hx1330) rfl rfl rfl ?_
      rintro _ K1331 C1333 w hk1332 ⟨a1334, c1335, rfl, h1336⟩ hS
      replace hS := hS.drop1
      replace hlq := hlq.trans hk1332
      refine d_go [4, 6, 8, 10] [4, 6, 8, 10] [] [] hX hS hlq rfl rfl trivial ?_
      refine d_ops [3, 8] (by kernel_rfl) rfl (.cons ⟨rfl, (by kernel_rfl), fun X hX => ?_⟩ (.cons ⟨rfl, (by kernel_rfl), fun X hX => ?_⟩ AllB.nil))
      · have hlq := KM.le.refl K1331
        refine s_bwc (cs := [(.string (⟨#[77, 97, 105, 110]⟩ : ByteArray)), (.string (⟨#[79, 98, 106, 101, 99, 116]⟩ : ByteArray)), (.slice none 0 0), (.int .i64 1), (.slice none 0 0), (.slice a97 s101.length c98), (.string (⟨#[73]⟩ : ByteArray)), (.string (⟨#[79, 98, 106, 101, 99, 116]⟩ : ByteArray)), (.slice none 0 0), (.int .i64 4), (.slice none 0 0), (.slice a175 ([(api_Method.mk (⟨#[114, 117, 110]⟩ : ByteArray) [] (api_Type.mk x148.Kind x148.Class) false true 0 [] [])].length) c176), (.string (⟨#[74]⟩ : ByteArray)), (.string (⟨#[79, 98, 106, 101, 99, 116]⟩ : ByteArray)), (.slice a180 ([(⟨#[73]⟩ : ByteArray)].length) c181), (.int .i64 4), (.slice none 0 0), (.slice a185 s189.length c186)]) hS rfl rfl rfl rfl rfl rfl rfl rfl rfl rfl ?_
        intro b1337 w hS
        refine d_go [5, 7, 9, 11] [5, 7, 9, 11] [] [] hX hS hlq rfl rfl trivial ?_
        refine d_ops [6, 8] (by kernel_rfl) rfl (.cons ⟨rfl, (by kernel_rfl), fun X hX => ?_⟩ (.cons ⟨rfl, (by kernel_rfl), fun X hX => ?_⟩ AllB.nil))
        · have hlq := KM.le.refl K1331
          replace h169 := h169.mono (hkk2.trans hk1332)
          obtain ⟨K1339, hk1340, h1341, hS⟩ := h169.freeze (hS.sel [8, 0, 1, 2, 3, 4, 5, 6, 7, 9, 10, 11, 12, 13, 14] rfl)
          replace hS : Sat w _ (flat [_, _, _, _, _, _, _, _, _, _, _, _, _, _]) := hS
          replace h174 := h174.mono ((hkk2.trans hk1332).trans hk1340)
          obtain ⟨K1342, hk1343, h1344, hS⟩ := h174.freeze (hS.sel [9, 0, 1, 2, 3, 4, 5, 6, 7, 8, 10, 11, 12, 13] rfl)
          replace hS : Sat w _ (flat [_, _, _, _, _, _, _, _, _, _, _, _, _]) := hS
          have hkk18 := ((hkk2.trans hk1332).trans hk1340).trans hk1343
          replace h179 := h179.mono hkk18
          obtain ⟨K1345, hk1346, h1347, hS⟩ := h179.freeze (hS.sel [10, 0, 1, 2, 3, 4, 5, 6, 7, 8, 9, 11, 12] rfl)
          replace hS : Sat w _ (flat [_, _, _, _, _, _, _, _, _, _, _, _]) := hS
          have hkk19 := hkk18.trans hk1346
          replace h184 := h184.mono hkk19
          obtain ⟨K1348, hk1349, h1350, hS⟩ := h184.freeze (hS.sel [10, 0, 1, 2, 3, 4, 5, 6, 7, 8, 9, 11] rfl)
          replace hS : Sat w _ (flat [_, _, _, _, _, _, _, _, _, _, _]) := hS
          replace h1341 := h1341.mono ((hk1343.trans hk1346).trans hk1349)
          replace h1344 := h1344.mono (hk1346.trans hk1349)
          replace h1347 := h1347.mono hk1349
          have h1351 : OwnS 81 K1348 (.slice (some ⟨b1337, 0, none⟩) 3 3) [(api_Class.mk (⟨#[77, 97, 105, 110]⟩ : ByteArray) (⟨#[79, 98, 106, 101, 99, 116]⟩ : ByteArray) [] 1 [] s101), (api_Class.mk (⟨#[73]⟩ : ByteArray) (⟨#[79, 98, 106, 101, 99, 116]⟩ : ByteArray) [] 4 [] [(api_Method.mk (⟨#[114, 117, 110]⟩ : ByteArray) [] (api_Type.mk x148.Kind x148.Class) false true 0 [] [])]), (api_Class.mk (⟨#[74]⟩ : ByteArray) (⟨#[79, 98, 106, 101, 99, 116]⟩ : ByteArray) [(⟨#[73]⟩ : ByteArray)] 4 [] s189)] [(b1337, Cl [(.string (⟨#[77, 97, 105, 110]⟩ : ByteArray)), (.string (⟨#[79, 98, 106, 101, 99, 116]⟩ : ByteArray)), (.slice none 0 0), (.int .i64 1), (.slice none 0 0), (.slice a97 s101.length c98), (.string (⟨#[73]⟩ : ByteArray)), (.string (⟨#[79, 98, 106, 101, 99, 116]⟩ : ByteArray)), (.slice none 0 0), (.int .i64 4), (.slice none 0 0), (.slice a175 ([(api_Method.mk (⟨#[114, 117, 110]⟩ : ByteArray) [] (api_Type.mk x148.Kind x148.Class) false true 0 [] [])].length) c176), (.string (⟨#[74]⟩ : ByteArray)), (.string (⟨#[79, 98, 106, 101, 99, 116]⟩ : ByteArray)), (.slice a180 ([(⟨#[73]⟩ : ByteArray)].length) c181), (.int .i64 4), (.slice none 0 0), (.slice a185 s189.length c186)] 81)] := OwnS.lit ⟨[(.string (⟨#[77, 97, 105, 110]⟩ : ByteArray)), (.string (⟨#[79, 98, 106, 101, 99, 116]⟩ : ByteArray)), (.slice none 0 0), (.int .i64 1), (.slice none 0 0), (.slice a97 s101.length c98)], _, rfl, ⟨none, 0, none, 0, a97, c98, rfl, SlK.nil, SlK.nil, h1341⟩, ⟨[(.string (⟨#[73]⟩ : ByteArray)), (.string (⟨#[79, 98, 106, 101, 99, 116]⟩ : ByteArray)), (.slice none 0 0), (.int .i64 4), (.slice none 0 0), (.slice a175 ([(api_Method.mk (⟨#[114, 117, 110]⟩ : ByteArray) [] (api_Type.mk x148.Kind x148.Class) false true 0 [] [])].length) c176)], _, rfl, ⟨none, 0, none, 0, a175, c176, rfl, SlK.nil, SlK.nil, h1344⟩, ⟨[(.string (⟨#[74]⟩ : ByteArray)), (.string (⟨#[79, 98, 106, 101, 99, 116]⟩ : ByteArray)), (.slice a180 ([(⟨#[73]⟩ : ByteArray)].length) c181), (.int .i64 4), (.slice none 0 0), (.slice a185 s189.length c186)], _, rfl, ⟨a180, c181, none, 0, a185, c186, rfl, h1347, SlK.nil, h1350⟩, rfl⟩⟩⟩ rfl rfl
          obtain ⟨hm1352, hf⟩ := gs hf
          have hkk20 := ((hk1340.trans hk1343).trans hk1346).trans hk1349
          replace h1336 := h1336.mono hkk20
          refine s_appk (e := 81) 0 hS rfl h1351 h1336 rfl rfl rfl rfl rfl rfl rfl (roomy_le hm1352) rfl rfl rfl ?_
          intro a1353 c1354 w C1355 h1356 hS
          replace hS : Sat w _ (flat [_, _, _, _, _, _, _, _, _, _, _]) := hS
          replace hlq := hlq.trans hkk20
          refine d_go [5, 7, 8, 9] [5, 7, 8, 9] [] [] hX hS hlq rfl rfl trivial ?_
          refine d_v (v := (.agg #[(.slice a1353 (([(api_Class.mk (⟨#[77, 97, 105, 110]⟩ : ByteArray) (⟨#[79, 98, 106, 101, 99, 116]⟩ : ByteArray) [] 1 [] s101), (api_Class.mk (⟨#[73]⟩ : ByteArray) (⟨#[79, 98, 106, 101, 99, 116]⟩ : ByteArray) [] 4 [] [(api_Method.mk (⟨#[114, 117, 110]⟩ : ByteArray) [] (api_Type.mk x148.Kind x148.Class) false true 0 [] [])]), (api_Class.mk (⟨#[74]⟩ : ByteArray) (⟨#[79, 98, 106, 101, 99, 116]⟩ : ByteArray) [(⟨#[73]⟩ : ByteArray)] 4 [] s189)] ++ x1329).length) c1354)])) 7 (fun _ _ _ _ _ h => h) [5, 7, 8, 9] hS rfl rfl rfl (by kernel_rfl) rfl rfl ?_
          refine d_op 8 rfl (by kernel_rfl) (by kernel_rfl) (fun X hX => ?_)
          have hlq := KM.le.refl K1348
          refine s_al hS rfl rfl rfl ?_
          intro b1357 w hS
          replace hS : Sat w K1348 (flat ([(b1357, Cl [(.slice none 0 0)] 74)] :: _)) := hS
          refine d_go [6, 8, 9, 10] [6, 8, 9, 10] [] [] hX hS hlq rfl rfl trivial ?_
          refine d_op 9 rfl (by kernel_rfl) (by kernel_rfl) (fun X hX => ?_)
          have hlq := KM.le.refl K1348
          refine s_st (cs' := [(.slice a1353 (([(api_Class.mk (⟨#[77, 97, 105, 110]⟩ : ByteArray) (⟨#[79, 98, 106, 101, 99, 116]⟩ : ByteArray) [] 1 [] s101), (api_Class.mk (⟨#[73]⟩ : ByteArray) (⟨#[79, 98, 106, 101, 99, 116]⟩ : ByteArray) [] 4 [] [(api_Method.mk (⟨#[114, 117, 110]⟩ : ByteArray) [] (api_Type.mk x148.Kind x148.Class) false true 0 [] [])]), (api_Class.mk (⟨#[74]⟩ : ByteArray) (⟨#[79, 98, 106, 101, 99, 116]⟩ : ByteArray) [(⟨#[73]⟩ : ByteArray)] 4 [] s189)] ++ x1329).length) c1354)]) 0 hS rfl rfl rfl rfl rfl ?_
          intro w hS
          replace hS : Sat w _ (flat [_, _, _, _, _, _, _, _, _, _, _, _]) := hS
          refine d_go [6, 8, 9, 10] [6, 8, 9, 10] [] [] hX hS hlq rfl rfl trivial ?_
          refine d_end (by kernel_rfl) ?_
          refine qn ?_
          have hkk21 := (((hk1332.trans hk1340).trans hk1343).trans hk1346).trans hk1349
          replace h270 := h270.mono hkk21
          replace h273 := h273.mono hkk21
          replace h276 := h276.mono hkk21
          have h1359 : OwnS 67 K1348 (.slice (some ⟨b277, 0, none⟩) 1 1) [x263] [(b277, Cl (vv67 x263 a268 c269 a271 c272 a274 c275) 67)] := OwnS.lit ⟨(vv67 x263 a268 c269 a271 c272 a274 c275), _, rfl, ⟨a268, c269, a271, c272, a274, c275, rfl, h270, h273, h276⟩, rfl⟩ rfl rfl
          have hq := Option.some.inj hf
          subst hq
          have hkk22 := hkk19.trans hk1349
          replace hle := hle.trans hkk22
          refine s_join hJ _ ⟨K1348, (some ⟨b277, 0, none⟩), 1, [(b277, Cl (vv67 x263 a268 c269 a271 c272 a274 c275) 67)], b1357, a1353, c1354, C1355, rfl, hle, h1359, h1356, (hS.sel [6, 7, 5, 4, 2, 3, 0, 1, 11] rfl)⟩ ⟨rfl, rfl, rfl, rfl, rfl, rfl, trivial⟩
        obtain ⟨hm1352, hf⟩ := gs hf
        replace hf : (guardB (roomy [(api_Class.mk (⟨#[77, 97, 105, 110]⟩ : ByteArray) (⟨#[79, 98, 106, 101, 99, 116]⟩ : ByteArray) [] 1 [] s101), (api_Class.mk (⟨#[73]⟩ : ByteArray) (⟨#[79, 98, 106, 101, 99, 116]⟩ : ByteArray) [] 4 [] [(api_Method.mk (⟨#[114, 117, 110]⟩ : ByteArray) [] (api_Type.mk x148.Kind x148.Class) false true 0 [] [])]), (api_Class.mk (⟨#[74]⟩ : ByteArray) (⟨#[79, 98, 106, 101, 99, 116]⟩ : ByteArray) [(⟨#[73]⟩ : ByteArray)] 4 [] s189)].length x1329.length 112) (some ([(api_Class.mk (⟨#[77, 97, 105, 110]⟩ : ByteArray) (⟨#[79, 98, 106, 101, 99, 116]⟩ : ByteArray) [] 1 [] s101), (api_Class.mk (⟨#[73]⟩ : ByteArray) (⟨#[79, 98, 106, 101, 99, 116]⟩ : ByteArray) [] 4 [] [(api_Method.mk (⟨#[114, 117, 110]⟩ : ByteArray) [] (api_Type.mk x148.Kind x148.Class) false true 0 [] [])]), (api_Class.mk (⟨#[74]⟩ : ByteArray) (⟨#[79, 98, 106, 101, 99, 116]⟩ : ByteArray) [(⟨#[73]⟩ : ByteArray)] 4 [] s189)] ++ x1329))) = _ := Eq.trans (by simp only [hm1352, guardB, cond_true, Option.bind_some]) hf
        have hlq := KM.le.refl K1331
        refine s_al hS rfl rfl rfl ?_
        intro b1360 w hS
        replace hS : Sat w K1331 (flat ([(b1360, Cl [(.slice none 0 0)] 74)] :: _)) := hS
        refine d_go [6, 8, 10, 12] [6, 8, 10, 12] [] [] hX hS hlq rfl rfl trivial ?_
        refine d_op 6 rfl (by kernel_rfl) (by kernel_rfl) (fun X hX => ?_)
        have hlq := KM.le.refl K1331
        replace h169 := h169.mono (hkk2.trans hk1332)
        obtain ⟨K1362, hk1363, h1364, hS⟩ := h169.freeze (hS.sel [9, 0, 1, 2, 3, 4, 5, 6, 7, 8, 10, 11, 12, 13, 14, 15] rfl)
        replace hS : Sat w _ (flat [_, _, _, _, _, _, _, _, _, _, _, _, _, _, _]) := hS
        replace h174 := h174.mono ((hkk2.trans hk1332).trans hk1363)
        obtain ⟨K1365, hk1366, h1367, hS⟩ := h174.freeze (hS.sel [10, 0, 1, 2, 3, 4, 5, 6, 7, 8, 9, 11, 12, 13, 14] rfl)
        replace hS : Sat w _ (flat [_, _, _, _, _, _, _, _, _, _, _, _, _, _]) := hS
        have hkk23 := ((hkk2.trans hk1332).trans hk1363).trans hk1366
        replace h179 := h179.mono hkk23
        obtain ⟨K1368, hk1369, h1370, hS⟩ := h179.freeze (hS.sel [11, 0, 1, 2, 3, 4, 5, 6, 7, 8, 9, 10, 12, 13] rfl)
        replace hS : Sat w _ (flat [_, _, _, _, _, _, _, _, _, _, _, _, _]) := hS
        have hkk24 := hkk23.trans hk1369
        replace h184 := h184.mono hkk24
        obtain ⟨K1371, hk1372, h1373, hS⟩ := h184.freeze (hS.sel [11, 0, 1, 2, 3, 4, 5, 6, 7, 8, 9, 10, 12] rfl)
        replace hS : Sat w _ (flat [_, _, _, _, _, _, _, _, _, _, _, _]) := hS
        replace h1364 := h1364.mono ((hk1366.trans hk1369).trans hk1372)
        replace h1367 := h1367.mono (hk1369.trans hk1372)
        replace h1370 := h1370.mono hk1372
        have h1374 : OwnS 81 K1371 (.slice (some ⟨b1337, 0, none⟩) 3 3) [(api_Class.mk (⟨#[77, 97, 105, 110]⟩ : ByteArray) (⟨#[79, 98, 106, 101, 99, 116]⟩ : ByteArray) [] 1 [] s101), (api_Class.mk (⟨#[73]⟩ : ByteArray) (⟨#[79, 98, 106, 101, 99, 116]⟩ : ByteArray) [] 4 [] [(api_Method.mk (⟨#[114, 117, 110]⟩ : ByteArray) [] (api_Type.mk x148.Kind x148.Class) false true 0 [] [])]), (api_Class.mk (⟨#[74]⟩ : ByteArray) (⟨#[79, 98, 106, 101, 99, 116]⟩ : ByteArray) [(⟨#[73]⟩ : ByteArray)] 4 [] s189)] [(b1337, Cl [(.string (⟨#[77, 97, 105, 110]⟩ : ByteArray)), (.string (⟨#[79, 98, 106, 101, 99, 116]⟩ : ByteArray)), (.slice none 0 0), (.int .i64 1), (.slice none 0 0), (.slice a97 s101.length c98), (.string (⟨#[73]⟩ : ByteArray)), (.string (⟨#[79, 98, 106, 101, 99, 116]⟩ : ByteArray)), (.slice none 0 0), (.int .i64 4), (.slice none 0 0), (.slice a175 ([(api_Method.mk (⟨#[114, 117, 110]⟩ : ByteArray) [] (api_Type.mk x148.Kind x148.Class) false true 0 [] [])].length) c176), (.string (⟨#[74]⟩ : ByteArray)), (.string (⟨#[79, 98, 106, 101, 99, 116]⟩ : ByteArray)), (.slice a180 ([(⟨#[73]⟩ : ByteArray)].length) c181), (.int .i64 4), (.slice none 0 0), (.slice a185 s189.length c186)] 81)] := OwnS.lit ⟨[(.string (⟨#[77, 97, 105, 110]⟩ : ByteArray)), (.string (⟨#[79, 98, 106, 101, 99, 116]⟩ : ByteArray)), (.slice none 0 0), (.int .i64 1), (.slice none 0 0), (.slice a97 s101.length c98)], _, rfl, ⟨none, 0, none, 0, a97, c98, rfl, SlK.nil, SlK.nil, h1364⟩, ⟨[(.string (⟨#[73]⟩ : ByteArray)), (.string (⟨#[79, 98, 106, 101, 99, 116]⟩ : ByteArray)), (.slice none 0 0), (.int .i64 4), (.slice none 0 0), (.slice a175 ([(api_Method.mk (⟨#[114, 117, 110]⟩ : ByteArray) [] (api_Type.mk x148.Kind x148.Class) false true 0 [] [])].length) c176)], _, rfl, ⟨none, 0, none, 0, a175, c176, rfl, SlK.nil, SlK.nil, h1367⟩, ⟨[(.string (⟨#[74]⟩ : ByteArray)), (.string (⟨#[79, 98, 106, 101, 99, 116]⟩ : ByteArray)), (.slice a180 ([(⟨#[73]⟩ : ByteArray)].length) c181), (.int .i64 4), (.slice none 0 0), (.slice a185 s189.length c186)], _, rfl, ⟨a180, c181, none, 0, a185, c186, rfl, h1370, SlK.nil, h1373⟩, rfl⟩⟩⟩ rfl rfl
        obtain ⟨hm1375, hf⟩ := gs hf
        have hkk25 := ((hk1363.trans hk1366).trans hk1369).trans hk1372
        replace h1336 := h1336.mono hkk25
        refine s_appk (e := 81) 1 hS rfl h1374 h1336 rfl rfl rfl rfl rfl rfl rfl (roomy_le hm1375) rfl rfl rfl ?_
        intro a1376 c1377 w C1378 h1379 hS
        replace hS : Sat w _ (flat [_, _, _, _, _, _, _, _, _, _, _, _]) := hS
        replace hlq := hlq.trans hkk25
        refine d_go [6, 8, 9, 10] [6, 8, 9, 10] [] [] hX hS hlq rfl rfl trivial ?_
        refine d_v (v := (.agg #[(.slice a1376 (([(api_Class.mk (⟨#[77, 97, 105, 110]⟩ : ByteArray) (⟨#[79, 98, 106, 101, 99, 116]⟩ : ByteArray) [] 1 [] s101), (api_Class.mk (⟨#[73]⟩ : ByteArray) (⟨#[79, 98, 106, 101, 99, 116]⟩ : ByteArray) [] 4 [] [(api_Method.mk (⟨#[114, 117, 110]⟩ : ByteArray) [] (api_Type.mk x148.Kind x148.Class) false true 0 [] [])]), (api_Class.mk (⟨#[74]⟩ : ByteArray) (⟨#[79, 98, 106, 101, 99, 116]⟩ : ByteArray) [(⟨#[73]⟩ : ByteArray)] 4 [] s189)] ++ x1329).length) c1377)])) 7 (fun _ _ _ _ _ h => h) [6, 8, 9, 10] hS rfl rfl rfl (by kernel_rfl) rfl rfl ?_
        refine d_op 9 rfl (by kernel_rfl) (by kernel_rfl) (fun X hX => ?_)
        have hlq := KM.le.refl K1371
        refine s_st (cs' := [(.slice a1376 (([(api_Class.mk (⟨#[77, 97, 105, 110]⟩ : ByteArray) (⟨#[79, 98, 106, 101, 99, 116]⟩ : ByteArray) [] 1 [] s101), (api_Class.mk (⟨#[73]⟩ : ByteArray) (⟨#[79, 98, 106, 101, 99, 116]⟩ : ByteArray) [] 4 [] [(api_Method.mk (⟨#[114, 117, 110]⟩ : ByteArray) [] (api_Type.mk x148.Kind x148.Class) false true 0 [] [])]), (api_Class.mk (⟨#[74]⟩ : ByteArray) (⟨#[79, 98, 106, 101, 99, 116]⟩ : ByteArray) [(⟨#[73]⟩ : ByteArray)] 4 [] s189)] ++ x1329).length) c1377)]) 0 hS rfl rfl rfl rfl rfl ?_
        intro w hS
        replace hS : Sat w _ (flat [_, _, _, _, _, _, _, _, _, _, _, _]) := hS
        refine d_go [6, 8, 9, 10] [6, 8, 9, 10] [] [] hX hS hlq rfl rfl trivial ?_
        refine d_end (by kernel_rfl) ?_
        refine qn ?_
        have hkk26 := (((hk1332.trans hk1363).trans hk1366).trans hk1369).trans hk1372
        replace h270 := h270.mono hkk26
        replace h273 := h273.mono hkk26
        replace h276 := h276.mono hkk26
        have h1380 : OwnS 67 K1371 (.slice (some ⟨b277, 0, none⟩) 1 1) [x263] [(b277, Cl (vv67 x263 a268 c269 a271 c272 a274 c275) 67)] := OwnS.lit ⟨(vv67 x263 a268 c269 a271 c272 a274 c275), _, rfl, ⟨a268, c269, a271, c272, a274, c275, rfl, h270, h273, h276⟩, rfl⟩ rfl rfl
        have hq := Option.some.inj hf
        subst hq
        have hkk27 := hkk24.trans hk1372
        replace hle := hle.trans hkk27
        refine s_join hJ _ ⟨K1371, (some ⟨b277, 0, none⟩), 1, [(b277, Cl (vv67 x263 a268 c269 a271 c272 a274 c275) 67)], b1360, a1376, c1377, C1378, rfl, hle, h1380, h1379, (hS.sel [6, 7, 5, 4, 2, 3, 0, 1, 11] rfl)⟩ ⟨rfl, rfl, rfl, rfl, rfl, rfl, trivial⟩
      obtain ⟨hm1352, hf⟩ := gs hf
      replace hf : (guardB (roomy [(api_Class.mk (⟨#[77, 97, 105, 110]⟩ : ByteArray) (⟨#[79, 98, 106, 101, 99, 116]⟩ : ByteArray) [] 1 [] s101), (api_Class.mk (⟨#[73]⟩ : ByteArray) (⟨#[79, 98, 106, 101, 99, 116]⟩ : ByteArray) [] 4 [] [(api_Method.mk (⟨#[114, 117, 110]⟩ : ByteArray) [] (api_Type.mk x148.Kind x148.Class) false true 0 [] [])]), (api_Class.mk (⟨#[74]⟩ : ByteArray) (⟨#[79, 98, 106, 101, 99, 116]⟩ : ByteArray) [(⟨#[73]⟩ : ByteArray)] 4 [] s189)].length x1329.length 112) (some ([(api_Class.mk (⟨#[77, 97, 105, 110]⟩ : ByteArray) (⟨#[79, 98, 106, 101, 99, 116]⟩ : ByteArray) [] 1 [] s101), (api_Class.mk (⟨#[73]⟩ : ByteArray) (⟨#[79, 98, 106, 101, 99, 116]⟩ : ByteArray) [] 4 [] [(api_Method.mk (⟨#[114, 117, 110]⟩ : ByteArray) [] (api_Type.mk x148.Kind x148.Class) false true 0 [] [])]), (api_Class.mk (⟨#[74]⟩ : ByteArray) (⟨#[79, 98, 106, 101, 99, 116]⟩ : ByteArray) [(⟨#[73]⟩ : ByteArray)] 4 [] s189)] ++ x1329))) = _ := Eq.trans (by simp only [hm1352, guardB, cond_true, Option.bind_some]) hf
      have hlq := KM.le.refl K1331
      refine s_al hS rfl rfl rfl ?_
      intro b1381 w hS
      replace hS : Sat w K1331 (flat ([(b1381, Cl [(.slice none 0 0)] 74)] :: _)) := hS
      refine d_go [5, 7, 9, 11] [5, 7, 9, 11] [] [] hX hS hlq rfl rfl trivial ?_
      refine d_op 3 rfl (by kernel_rfl) (by kernel_rfl) (fun X hX => ?_)
      have hlq := KM.le.refl K1331
      refine s_bwc (cs := [(.string (⟨#[77, 97, 105, 110]⟩ : ByteArray)), (.string (⟨#[79, 98, 106, 101, 99, 116]⟩ : ByteArray)), (.slice none 0 0), (.int .i64 1), (.slice none 0 0), (.slice a97 s101.length c98), (.string (⟨#[73]⟩ : ByteArray)), (.string (⟨#[79, 98, 106, 101, 99, 116]⟩ : ByteArray)), (.slice none 0 0), (.int .i64 4), (.slice none 0 0), (.slice a175 ([(api_Method.mk (⟨#[114, 117, 110]⟩ : ByteArray) [] (api_Type.mk x148.Kind x148.Class) false true 0 [] [])].length) c176), (.string (⟨#[74]⟩ : ByteArray)), (.string (⟨#[79, 98, 106, 101, 99, 116]⟩ : ByteArray)), (.slice a180 ([(⟨#[73]⟩ : ByteArray)].length) c181), (.int .i64 4), (.slice none 0 0), (.slice a185 s189.length c186)]) hS rfl rfl rfl rfl rfl rfl rfl rfl rfl rfl ?_
      intro b1383 w hS
      refine d_go [6, 8, 10, 12] [6, 8, 10, 12] [] [] hX hS hlq rfl rfl trivial ?_
      refine d_op 6 rfl (by kernel_rfl) (by kernel_rfl) (fun X hX => ?_)
      have hlq := KM.le.refl K1331
      replace h169 := h169.mono (hkk2.trans hk1332)
      obtain ⟨K1385, hk1386, h1387, hS⟩ := h169.freeze (hS.sel [9, 0, 1, 2, 3, 4, 5, 6, 7, 8, 10, 11, 12, 13, 14, 15] rfl)
      replace hS : Sat w _ (flat [_, _, _, _, _, _, _, _, _, _, _, _, _, _, _]) := hS
      replace h174 := h174.mono ((hkk2.trans hk1332).trans hk1386)
      obtain ⟨K1388, hk1389, h1390, hS⟩ := h174.freeze (hS.sel [10, 0, 1, 2, 3, 4, 5, 6, 7, 8, 9, 11, 12, 13, 14] rfl)
      replace hS : Sat w _ (flat [_, _, _, _, _, _, _, _, _, _, _, _, _, _]) := hS
      have hkk28 := ((hkk2.trans hk1332).trans hk1386).trans hk1389
      replace h179 := h179.mono hkk28
      obtain ⟨K1391, hk1392, h1393, hS⟩ := h179.freeze (hS.sel [11, 0, 1, 2, 3, 4, 5, 6, 7, 8, 9, 10, 12, 13] rfl)
      replace hS : Sat w _ (flat [_, _, _, _, _, _, _, _, _, _, _, _, _]) := hS
      have hkk29 := hkk28.trans hk1392
      replace h184 := h184.mono hkk29
      obtain ⟨K1394, hk1395, h1396, hS⟩ := h184.freeze (hS.sel [11, 0, 1, 2, 3, 4, 5, 6, 7, 8, 9, 10, 12] rfl)
      replace hS : Sat w _ (flat [_, _, _, _, _, _, _, _, _, _, _, _]) := hS
      replace h1387 := h1387.mono ((hk1389.trans hk1392).trans hk1395)
      replace h1390 := h1390.mono (hk1392.trans hk1395)
      replace h1393 := h1393.mono hk1395
      have h1397 : OwnS 81 K1394 (.slice (some ⟨b1383, 0, none⟩) 3 3) [(api_Class.mk (⟨#[77, 97, 105, 110]⟩ : ByteArray) (⟨#[79, 98, 106, 101, 99, 116]⟩ : ByteArray) [] 1 [] s101), (api_Class.mk (⟨#[73]⟩ : ByteArray) (⟨#[79, 98, 106, 101, 99, 116]⟩ : ByteArray) [] 4 [] [(api_Method.mk (⟨#[114, 117, 110]⟩ : ByteArray) [] (api_Type.mk x148.Kind x148.Class) false true 0 [] [])]), (api_Class.mk (⟨#[74]⟩ : ByteArray) (⟨#[79, 98, 106, 101, 99, 116]⟩ : ByteArray) [(⟨#[73]⟩ : ByteArray)] 4 [] s189)] [(b1383, Cl [(.string (⟨#[77, 97, 105, 110]⟩ : ByteArray)), (.string (⟨#[79, 98, 106, 101, 99, 116]⟩ : ByteArray)), (.slice none 0 0), (.int .i64 1), (.slice none 0 0), (.slice a97 s101.length c98), (.string (⟨#[73]⟩ : ByteArray)), (.string (⟨#[79, 98, 106, 101, 99, 116]⟩ : ByteArray)), (.slice none 0 0), (.int .i64 4), (.slice none 0 0), (.slice a175 ([(api_Method.mk (⟨#[114, 117, 110]⟩ : ByteArray) [] (api_Type.mk x148.Kind x148.Class) false true 0 [] [])].length) c176), (.string (⟨#[74]⟩ : ByteArray)), (.string (⟨#[79, 98, 106, 101, 99, 116]⟩ : ByteArray)), (.slice a180 ([(⟨#[73]⟩ : ByteArray)].length) c181), (.int .i64 4), (.slice none 0 0), (.slice a185 s189.length c186)] 81)] := OwnS.lit ⟨[(.string (⟨#[77, 97, 105, 110]⟩ : ByteArray)), (.string (⟨#[79, 98, 106, 101, 99, 116]⟩ : ByteArray)), (.slice none 0 0), (.int .i64 1), (.slice none 0 0), (.slice a97 s101.length c98)], _, rfl, ⟨none, 0, none, 0, a97, c98, rfl, SlK.nil, SlK.nil, h1387⟩, ⟨[(.string (⟨#[73]⟩ : ByteArray)), (.string (⟨#[79, 98, 106, 101, 99, 116]⟩ : ByteArray)), (.slice none 0 0), (.int .i64 4), (.slice none 0 0), (.slice a175 ([(api_Method.mk (⟨#[114, 117, 110]⟩ : ByteArray) [] (api_Type.mk x148.Kind x148.Class) false true 0 [] [])].length) c176)], _, rfl, ⟨none, 0, none, 0, a175, c176, rfl, SlK.nil, SlK.nil, h1390⟩, ⟨[(.string (⟨#[74]⟩ : ByteArray)), (.string (⟨#[79, 98, 106, 101, 99, 116]⟩ : ByteArray)), (.slice a180 ([(⟨#[73]⟩ : ByteArray)].length) c181), (.int .i64 4), (.slice none 0 0), (.slice a185 s189.length c186)], _, rfl, ⟨a180, c181, none, 0, a185, c186, rfl, h1393, SlK.nil, h1396⟩, rfl⟩⟩⟩ rfl rfl
      obtain ⟨hm1398, hf⟩ := gs hf
      have hkk30 := ((hk1386.trans hk1389).trans hk1392).trans hk1395
      replace h1336 := h1336.mono hkk30
      refine s_appk (e := 81) 0 hS rfl h1397 h1336 rfl rfl rfl rfl rfl rfl rfl (roomy_le hm1398) rfl rfl rfl ?_
      intro a1399 c1400 w C1401 h1402 hS
      replace hS : Sat w _ (flat [_, _, _, _, _, _, _, _, _, _, _, _]) := hS
      replace hlq := hlq.trans hkk30
      refine d_go [6, 8, 9, 10] [6, 8, 9, 10] [] [] hX hS hlq rfl rfl trivial ?_
      refine d_v (v := (.agg #[(.slice a1399 (([(api_Class.mk (⟨#[77, 97, 105, 110]⟩ : ByteArray) (⟨#[79, 98, 106, 101, 99, 116]⟩ : ByteArray) [] 1 [] s101), (api_Class.mk (⟨#[73]⟩ : ByteArray) (⟨#[79, 98, 106, 101, 99, 116]⟩ : ByteArray) [] 4 [] [(api_Method.mk (⟨#[114, 117, 110]⟩ : ByteArray) [] (api_Type.mk x148.Kind x148.Class) false true 0 [] [])]), (api_Class.mk (⟨#[74]⟩ : ByteArray) (⟨#[79, 98, 106, 101, 99, 116]⟩ : ByteArray) [(⟨#[73]⟩ : ByteArray)] 4 [] s189)] ++ x1329).length) c1400)])) 7 (fun _ _ _ _ _ h => h) [6, 8, 9, 10] hS rfl rfl rfl (by kernel_rfl) rfl rfl ?_
      refine d_op 9 rfl (by kernel_rfl) (by kernel_rfl) (fun X hX => ?_)
      have hlq := KM.le.refl K1394
      refine s_st (cs' := [(.slice a1399 (([(api_Class.mk (⟨#[77, 97, 105, 110]⟩ : ByteArray) (⟨#[79, 98, 106, 101, 99, 116]⟩ : ByteArray) [] 1 [] s101), (api_Class.mk (⟨#[73]⟩ : ByteArray) (⟨#[79, 98, 106, 101, 99, 116]⟩ : ByteArray) [] 4 [] [(api_Method.mk (⟨#[114, 117, 110]⟩ : ByteArray) [] (api_Type.mk x148.Kind x148.Class) false true 0 [] [])]), (api_Class.mk (⟨#[74]⟩ : ByteArray) (⟨#[79, 98, 106, 101, 99, 116]⟩ : ByteArray) [(⟨#[73]⟩ : ByteArray)] 4 [] s189)] ++ x1329).length) c1400)]) 1 hS rfl rfl rfl rfl rfl ?_
      intro w hS
      replace hS : Sat w _ (flat [_, _, _, _, _, _, _, _, _, _, _, _]) := hS
      refine d_go [6, 8, 9, 10] [6, 8, 9, 10] [] [] hX hS hlq rfl rfl trivial ?_
      refine d_end (by kernel_rfl) ?_
      refine qn ?_
      have hkk31 := (((hk1332.trans hk1386).trans hk1389).trans hk1392).trans hk1395
      replace h270 := h270.mono hkk31
      replace h273 := h273.mono hkk31
      replace h276 := h276.mono hkk31
      have h1403 : OwnS 67 K1394 (.slice (some ⟨b277, 0, none⟩) 1 1) [x263] [(b277, Cl (vv67 x263 a268 c269 a271 c272 a274 c275) 67)] := OwnS.lit ⟨(vv67 x263 a268 c269 a271 c272 a274 c275), _, rfl, ⟨a268, c269, a271, c272, a274, c275, rfl, h270, h273, h276⟩, rfl⟩ rfl rfl
      have hq := Option.some.inj hf
      subst hq
      have hkk32 := hkk29.trans hk1395
      replace hle := hle.trans hkk32
      refine s_join hJ _ ⟨K1394, (some ⟨b277, 0, none⟩), 1, [(b277, Cl (vv67 x263 a268 c269 a271 c272 a274 c275) 67)], b1381, a1399, c1400, C1401, rfl, hle, h1403, h1402, (hS.sel [6, 7, 5, 4, 2, 3, 1, 0, 11] rfl)⟩ ⟨rfl, rfl, rfl, rfl, rfl, rfl, trivial⟩
    obtain ⟨x1250, hx1251, hf⟩ := bs hf
    obtain ⟨hm1271, hf⟩ := gs hf
    replace hf : ((bonsaiseat_family.fn p1).bind fun x1408 => guardB (roomy [(api_Class.mk (⟨#[77, 97, 105, 110]⟩ : ByteArray) (⟨#[79, 98, 106, 101, 99, 116]⟩ : ByteArray) [] 1 [] s101), (api_Class.mk (⟨#[73]⟩ : ByteArray) (⟨#[79, 98, 106, 101, 99, 116]⟩ : ByteArray) [] 4 [] [(api_Method.mk (⟨#[114, 117, 110]⟩ : ByteArray) [] (api_Type.mk x148.Kind x148.Class) false true 0 [] [])]), (api_Class.mk (⟨#[74]⟩ : ByteArray) (⟨#[79, 98, 106, 101, 99, 116]⟩ : ByteArray) [(⟨#[73]⟩ : ByteArray)] 4 [] s189)].length x1408.length 112) (some ([(api_Class.mk (⟨#[77, 97, 105, 110]⟩ : ByteArray) (⟨#[79, 98, 106, 101, 99, 116]⟩ : ByteArray) [] 1 [] s101), (api_Class.mk (⟨#[73]⟩ : ByteArray) (⟨#[79, 98, 106, 101, 99, 116]⟩ : ByteArray) [] 4 [] [(api_Method.mk (⟨#[114, 117, 110]⟩ : ByteArray) [] (api_Type.mk x148.Kind x148.Class) false true 0 [] [])]), (api_Class.mk (⟨#[74]⟩ : ByteArray) (⟨#[79, 98, 106, 101, 99, 116]⟩ : ByteArray) [(⟨#[73]⟩ : ByteArray)] 4 [] s189)] ++ x1408))) = _ := Eq.trans (by simp only [hx1251, hm1271, guardB, cond_true, Option.bind_some]) hf
    have hlq := KM.le.refl K265
    refine s_al hS rfl rfl rfl ?_
    intro b1404 w hS
    replace hS : Sat w K265 (flat ([(b1404, Cl [(.slice none 0 0)] 74)] :: _)) := hS
    refine d_go [5, 7, 9, 11] [5, 7, 9, 11] [] [] hX hS hlq rfl rfl trivial ?_
    refine d_ops [3, 5] (by kernel_rfl) rfl (.cons ⟨rfl, (by kernel_rfl), fun X hX => ?_⟩ (.cons ⟨rfl, (by kernel_rfl), fun X hX => ?_⟩ AllB.nil))
    · have hlq := KM.le.refl K265
      refine s_bwc (cs := [(.string (⟨#[77, 97, 105, 110]⟩ : ByteArray)), (.string (⟨#[79, 98, 106, 101, 99, 116]⟩ : ByteArray)), (.slice none 0 0), (.int .i64 1), (.slice none 0 0), (.slice a97 s101.length c98), (.string (⟨#[73]⟩ : ByteArray)), (.string (⟨#[79, 98, 106, 101, 99, 116]⟩ : ByteArray)), (.slice none 0 0), (.int .i64 4), (.slice none 0 0), (.slice a175 ([(api_Method.mk (⟨#[114, 117, 110]⟩ : ByteArray) [] (api_Type.mk x148.Kind x148.Class) false true 0 [] [])].length) c176), (.string (⟨#[74]⟩ : ByteArray)), (.string (⟨#[79, 98, 106, 101, 99, 116]⟩ : ByteArray)), (.slice a180 ([(⟨#[73]⟩ : ByteArray)].length) c181), (.int .i64 4), (.slice none 0 0), (.slice a185 s189.length c186)]) hS rfl rfl rfl rfl rfl rfl rfl rfl rfl rfl ?_
      intro b1406 w hS
      refine d_go [6, 8, 10, 12] [6, 8, 10, 12] [] [] hX hS hlq rfl rfl trivial ?_
      refine d_op 5 rfl (by kernel_rfl) (by kernel_rfl) (fun X hX => ?_)
      have hlq := KM.le.refl K265
      obtain ⟨x1408, hx1409, hf⟩ := bs hf
      refine s_call isf52 hS.nilG (bonsaiseat_family_spec hx1409) rfl rfl rfl ?_
      rintro _ K1410 C1412 w hk1411 ⟨a1413, c1414, rfl, h1415⟩ hS
      replace hS := hS.drop1
      replace hlq := hlq.trans hk1411
      refine d_go [6, 8, 10, 12] [6, 8, 10, 12] [] [] hX hS hlq rfl rfl trivial ?_
      refine d_op 6 rfl (by kernel_rfl) (by kernel_rfl) (fun X hX => ?_)
      have hlq := KM.le.refl K1410
      replace h169 := h169.mono (hkk2.trans hk1411)
      obtain ⟨K1416, hk1417, h1418, hS⟩ := h169.freeze (hS.sel [9, 0, 1, 2, 3, 4, 5, 6, 7, 8, 10, 11, 12, 13, 14, 15] rfl)
      replace hS : Sat w _ (flat [_, _, _, _, _, _, _, _, _, _, _, _, _, _, _]) := hS
      replace h174 := h174.mono ((hkk2.trans hk1411).trans hk1417)
      obtain ⟨K1419, hk1420, h1421, hS⟩ := h174.freeze (hS.sel [10, 0, 1, 2, 3, 4, 5, 6, 7, 8, 9, 11, 12, 13, 14] rfl)
      replace hS : Sat w _ (flat [_, _, _, _, _, _, _, _, _, _, _, _, _, _]) := hS
      have hkk33 := ((hkk2.trans hk1411).trans hk1417).trans hk1420
      replace h179 := h179.mono hkk33
      obtain ⟨K1422, hk1423, h1424, hS⟩ := h179.freeze (hS.sel [11, 0, 1, 2, 3, 4, 5, 6, 7, 8, 9, 10, 12, 13] rfl)
      replace hS : Sat w _ (flat [_, _, _, _, _, _, _, _, _, _, _, _, _]) := hS
      have hkk34 := hkk33.trans hk1423
      replace h184 := h184.mono hkk34
      obtain ⟨K1425, hk1426, h1427, hS⟩ := h184.freeze (hS.sel [11, 0, 1, 2, 3, 4, 5, 6, 7, 8, 9, 10, 12] rfl)
      replace hS : Sat w _ (flat [_, _, _, _, _, _, _, _, _, _, _, _]) := hS
      replace h1418 := h1418.mono ((hk1420.trans hk1423).trans hk1426)
      replace h1421 := h1421.mono (hk1423.trans hk1426)
      replace h1424 := h1424.mono hk1426
      have h1428 : OwnS 81 K1425 (.slice (some ⟨b1406, 0, none⟩) 3 3) [(api_Class.mk (⟨#[77, 97, 105, 110]⟩ : ByteArray) (⟨#[79, 98, 106, 101, 99, 116]⟩ : ByteArray) [] 1 [] s101), (api_Class.mk (⟨#[73]⟩ : ByteArray) (⟨#[79, 98, 106, 101, 99, 116]⟩ : ByteArray) [] 4 [] [(api_Method.mk (⟨#[114, 117, 110]⟩ : ByteArray) [] (api_Type.mk x148.Kind x148.Class) false true 0 [] [])]), (api_Class.mk (⟨#[74]⟩ : ByteArray) (⟨#[79, 98, 106, 101, 99, 116]⟩ : ByteArray) [(⟨#[73]⟩ : ByteArray)] 4 [] s189)] [(b1406, Cl [(.string (⟨#[77, 97, 105, 110]⟩ : ByteArray)), (.string (⟨#[79, 98, 106, 101, 99, 116]⟩ : ByteArray)), (.slice none 0 0), (.int .i64 1), (.slice none 0 0), (.slice a97 s101.length c98), (.string (⟨#[73]⟩ : ByteArray)), (.string (⟨#[79, 98, 106, 101, 99, 116]⟩ : ByteArray)), (.slice none 0 0), (.int .i64 4), (.slice none 0 0), (.slice a175 ([(api_Method.mk (⟨#[114, 117, 110]⟩ : ByteArray) [] (api_Type.mk x148.Kind x148.Class) false true 0 [] [])].length) c176), (.string (⟨#[74]⟩ : ByteArray)), (.string (⟨#[79, 98, 106, 101, 99, 116]⟩ : ByteArray)), (.slice a180 ([(⟨#[73]⟩ : ByteArray)].length) c181), (.int .i64 4), (.slice none 0 0), (.slice a185 s189.length c186)] 81)] := OwnS.lit ⟨[(.string (⟨#[77, 97, 105, 110]⟩ : ByteArray)), (.string (⟨#[79, 98, 106, 101, 99, 116]⟩ : ByteArray)), (.slice none 0 0), (.int .i64 1), (.slice none 0 0), (.slice a97 s101.length c98)], _, rfl, ⟨none, 0, none, 0, a97, c98, rfl, SlK.nil, SlK.nil, h1418⟩, ⟨[(.string (⟨#[73]⟩ : ByteArray)), (.string (⟨#[79, 98, 106, 101, 99, 116]⟩ : ByteArray)), (.slice none 0 0), (.int .i64 4), (.slice none 0 0), (.slice a175 ([(api_Method.mk (⟨#[114, 117, 110]⟩ : ByteArray) [] (api_Type.mk x148.Kind x148.Class) false true 0 [] [])].length) c176)], _, rfl, ⟨none, 0, none, 0, a175, c176, rfl, SlK.nil, SlK.nil, h1421⟩, ⟨[(.string (⟨#[74]⟩ : ByteArray)), (.string (⟨#[79, 98, 106, 101, 99, 116]⟩ : ByteArray)), (.slice a180 ([(⟨#[73]⟩ : ByteArray)].length) c181), (.int .i64 4), (.slice none 0 0), (.slice a185 s189.length c186)], _, rfl, ⟨a180, c181, none, 0, a185, c186, rfl, h1424, SlK.nil, h1427⟩, rfl⟩⟩⟩ rfl rfl
      obtain ⟨hm1429, hf⟩ := gs hf
      have hkk35 := ((hk1417.trans hk1420).trans hk1423).trans hk1426
      replace h1415 := h1415.mono hkk35
      refine s_appk (e := 81) 0 hS rfl h1428 h1415 rfl rfl rfl rfl rfl rfl rfl (roomy_le hm1429) rfl rfl rfl ?_
      intro a1430 c1431 w C1432 h1433 hS
      replace hS : Sat w _ (flat [_, _, _, _, _, _, _, _, _, _, _, _]) := hS
      replace hlq := hlq.trans hkk35
      refine d_go [6, 8, 9, 10] [6, 8, 9, 10] [] [] hX hS hlq rfl rfl trivial ?_
      refine d_v (v := (.agg #[(.slice a1430 (([(api_Class.mk (⟨#[77, 97, 105, 110]⟩ : ByteArray) (⟨#[79, 98, 106, 101, 99, 116]⟩ : ByteArray) [] 1 [] s101), (api_Class.mk (⟨#[73]⟩ : ByteArray) (⟨#[79, 98, 106, 101, 99, 116]⟩ : ByteArray) [] 4 [] [(api_Method.mk (⟨#[114, 117, 110]⟩ : ByteArray) [] (api_Type.mk x148.Kind x148.Class) false true 0 [] [])]), (api_Class.mk (⟨#[74]⟩ : ByteArray) (⟨#[79, 98, 106, 101, 99, 116]⟩ : ByteArray) [(⟨#[73]⟩ : ByteArray)] 4 [] s189)] ++ x1408).length) c1431)])) 7 (fun _ _ _ _ _ h => h) [6, 8, 9, 10] hS rfl rfl rfl (by kernel_rfl) rfl rfl ?_
      refine d_op 9 rfl (by kernel_rfl) (by kernel_rfl) (fun X hX => ?_)
      have hlq := KM.le.refl K1425
      refine s_st (cs' := [(.slice a1430 (([(api_Class.mk (⟨#[77, 97, 105, 110]⟩ : ByteArray) (⟨#[79, 98, 106, 101, 99, 116]⟩ : ByteArray) [] 1 [] s101), (api_Class.mk (⟨#[73]⟩ : ByteArray) (⟨#[79, 98, 106, 101, 99, 116]⟩ : ByteArray) [] 4 [] [(api_Method.mk (⟨#[114, 117, 110]⟩ : ByteArray) [] (api_Type.mk x148.Kind x148.Class) false true 0 [] [])]), (api_Class.mk (⟨#[74]⟩ : ByteArray) (⟨#[79, 98, 106, 101, 99, 116]⟩ : ByteArray) [(⟨#[73]⟩ : ByteArray)] 4 [] s189)] ++ x1408).length) c1431)]) 1 hS rfl rfl rfl rfl rfl ?_
      intro w hS
      replace hS : Sat w _ (flat [_, _, _, _, _, _, _, _, _, _, _, _]) := hS
      refine d_go [6, 8, 9, 10] [6, 8, 9, 10] [] [] hX hS hlq rfl rfl trivial ?_
      refine d_end (by kernel_rfl) ?_
      refine qn ?_
      have hkk36 := (((hk1411.trans hk1417).trans hk1420).trans hk1423).trans hk1426
      replace h270 := h270.mono hkk36
      replace h273 := h273.mono hkk36
      replace h276 := h276.mono hkk36
      have h1434 : OwnS 67 K1425 (.slice (some ⟨b277, 0, none⟩) 1 1) [x263] [(b277, Cl (vv67 x263 a268 c269 a271 c272 a274 c275) 67)] := OwnS.lit ⟨(vv67 x263 a268 c269 a271 c272 a274 c275), _, rfl, ⟨a268, c269, a271, c272, a274, c275, rfl, h270, h273, h276⟩, rfl⟩ rfl rfl
      have hq := Option.some.inj hf
      subst hq
      have hkk37 := hkk34.trans hk1426
      replace hle := hle.trans hkk37
      refine s_join hJ _ ⟨K1425, (some ⟨b277, 0, none⟩), 1, [(b277, Cl (vv67 x263 a268 c269 a271 c272 a274 c275) 67)], b1404, a1430, c1431, C1432, rfl, hle, h1434, h1433, (hS.sel [6, 7, 5, 4, 2, 3, 1, 0, 11] rfl)⟩ ⟨rfl, rfl, rfl, rfl, rfl, rfl, trivial⟩
    obtain ⟨x1408, hx1409, hf⟩ := bs hf
    obtain ⟨hm1429, hf⟩ := gs hf
    replace hf : ((bonsaiseat_family.fn p1).bind fun x1435 => guardB (roomy [(api_Class.mk (⟨#[77, 97, 105, 110]⟩ : ByteArray) (⟨#[79, 98, 106, 101, 99, 116]⟩ : ByteArray) [] 1 [] s101), (api_Class.mk (⟨#[73]⟩ : ByteArray) (⟨#[79, 98, 106, 101, 99, 116]⟩ : ByteArray) [] 4 [] [(api_Method.mk (⟨#[114, 117, 110]⟩ : ByteArray) [] (api_Type.mk x148.Kind x148.Class) false true 0 [] [])]), (api_Class.mk (⟨#[74]⟩ : ByteArray) (⟨#[79, 98, 106, 101, 99, 116]⟩ : ByteArray) [(⟨#[73]⟩ : ByteArray)] 4 [] s189)].length x1435.length 112) (some ([(api_Class.mk (⟨#[77, 97, 105, 110]⟩ : ByteArray) (⟨#[79, 98, 106, 101, 99, 116]⟩ : ByteArray) [] 1 [] s101), (api_Class.mk (⟨#[73]⟩ : ByteArray) (⟨#[79, 98, 106, 101, 99, 116]⟩ : ByteArray) [] 4 [] [(api_Method.mk (⟨#[114, 117, 110]⟩ : ByteArray) [] (api_Type.mk x148.Kind x148.Class) false true 0 [] [])]), (api_Class.mk (⟨#[74]⟩ : ByteArray) (⟨#[79, 98, 106, 101, 99, 116]⟩ : ByteArray) [(⟨#[73]⟩ : ByteArray)] 4 [] s189)] ++ x1435))) = _ := Eq.trans (by simp only [hx1409, hm1429, guardB, cond_true, Option.bind_some]) hf
    have hlq := KM.le.refl K265
    obtain ⟨x1435, hx1436, hf⟩ := bs hf
    refine s_call isf52 hS.nilG (bonsaiseat_family_spec hx1436) rfl rfl rfl ?_
    rintro _ K1437 C1439 w hk1438 ⟨a1440, c1441, rfl, h1442⟩ hS
    replace hS := hS.drop1
    replace hlq := hlq.trans hk1438
    refine d_go [5, 7, 9, 11] [5, 7, 9, 11] [] [] hX hS hlq rfl rfl trivial ?_
    refine d_op 3 rfl (by kernel_rfl) (by kernel_rfl) (fun X hX => ?_)
    have hlq := KM.le.refl K1437
    refine s_bwc (cs := [(.string (⟨#[77, 97, 105, 110]⟩ : ByteArray)), (.string (⟨#[79, 98, 106, 101, 99, 116]⟩ : ByteArray)), (.slice none 0 0), (.int .i64 1), (.slice none 0 0), (.slice a97 s101.length c98), (.string (⟨#[73]⟩ : ByteArray)), (.string (⟨#[79, 98, 106, 101, 99, 116]⟩ : ByteArray)), (.slice none 0 0), (.int .i64 4), (.slice none 0 0), (.slice a175 ([(api_Method.mk (⟨#[114, 117, 110]⟩ : ByteArray) [] (api_Type.mk x148.Kind x148.Class) false true 0 [] [])].length) c176), (.string (⟨#[74]⟩ : ByteArray)), (.string (⟨#[79, 98, 106, 101, 99, 116]⟩ : ByteArray)), (.slice a180 ([(⟨#[73]⟩ : ByteArray)].length) c181), (.int .i64 4), (.slice none 0 0), (.slice a185 s189.length c186)]) hS rfl rfl rfl rfl rfl rfl rfl rfl rfl rfl ?_
    intro b1443 w hS
    refine d_go [6, 8, 10, 12] [6, 8, 10, 12] [] [] hX hS hlq rfl rfl trivial ?_
    refine d_op 6 rfl (by kernel_rfl) (by kernel_rfl) (fun X hX => ?_)
    have hlq := KM.le.refl K1437
    replace h169 := h169.mono (hkk2.trans hk1438)
    obtain ⟨K1445, hk1446, h1447, hS⟩ := h169.freeze (hS.sel [9, 0, 1, 2, 3, 4, 5, 6, 7, 8, 10, 11, 12, 13, 14, 15] rfl)
    replace hS : Sat w _ (flat [_, _, _, _, _, _, _, _, _, _, _, _, _, _, _]) := hS
    replace h174 := h174.mono ((hkk2.trans hk1438).trans hk1446)
    obtain ⟨K1448, hk1449, h1450, hS⟩ := h174.freeze (hS.sel [10, 0, 1, 2, 3, 4, 5, 6, 7, 8, 9, 11, 12, 13, 14] rfl)
    replace hS : Sat w _ (flat [_, _, _, _, _, _, _, _, _, _, _, _, _, _]) := hS
    have hkk38 := ((hkk2.trans hk1438).trans hk1446).trans hk1449
    replace h179 := h179.mono hkk38
    obtain ⟨K1451, hk1452, h1453, hS⟩ := h179.freeze (hS.sel [11, 0, 1, 2, 3, 4, 5, 6, 7, 8, 9, 10, 12, 13] rfl)
    replace hS : Sat w _ (flat [_, _, _, _, _, _, _, _, _, _, _, _, _]) := hS
    have hkk39 := hkk38.trans hk1452
    replace h184 := h184.mono hkk39
    obtain ⟨K1454, hk1455, h1456, hS⟩ := h184.freeze (hS.sel [11, 0, 1, 2, 3, 4, 5, 6, 7, 8, 9, 10, 12] rfl)
    replace hS : Sat w _ (flat [_, _, _, _, _, _, _, _, _, _, _, _]) := hS
    replace h1447 := h1447.mono ((hk1449.trans hk1452).trans hk1455)
    replace h1450 := h1450.mono (hk1452.trans hk1455)
    replace h1453 := h1453.mono hk1455
    have h1457 : OwnS 81 K1454 (.slice (some ⟨b1443, 0, none⟩) 3 3) [(api_Class.mk (⟨#[77, 97, 105, 110]⟩ : ByteArray) (⟨#[79, 98, 106, 101, 99, 116]⟩ : ByteArray) [] 1 [] s101), (api_Class.mk (⟨#[73]⟩ : ByteArray) (⟨#[79, 98, 106, 101, 99, 116]⟩ : ByteArray) [] 4 [] [(api_Method.mk (⟨#[114, 117, 110]⟩ : ByteArray) [] (api_Type.mk x148.Kind x148.Class) false true 0 [] [])]), (api_Class.mk (⟨#[74]⟩ : ByteArray) (⟨#[79, 98, 106, 101, 99, 116]⟩ : ByteArray) [(⟨#[73]⟩ : ByteArray)] 4 [] s189)] [(b1443, Cl [(.string (⟨#[77, 97, 105, 110]⟩ : ByteArray)), (.string (⟨#[79, 98, 106, 101, 99, 116]⟩ : ByteArray)), (.slice none 0 0), (.int .i64 1), (.slice none 0 0), (.slice a97 s101.length c98), (.string (⟨#[73]⟩ : ByteArray)), (.string (⟨#[79, 98, 106, 101, 99, 116]⟩ : ByteArray)), (.slice none 0 0), (.int .i64 4), (.slice none 0 0), (.slice a175 ([(api_Method.mk (⟨#[114, 117, 110]⟩ : ByteArray) [] (api_Type.mk x148.Kind x148.Class) false true 0 [] [])].length) c176), (.string (⟨#[74]⟩ : ByteArray)), (.string (⟨#[79, 98, 106, 101, 99, 116]⟩ : ByteArray)), (.slice a180 ([(⟨#[73]⟩ : ByteArray)].length) c181), (.int .i64 4), (.slice none 0 0), (.slice a185 s189.length c186)] 81)] := OwnS.lit ⟨[(.string (⟨#[77, 97, 105, 110]⟩ : ByteArray)), (.string (⟨#[79, 98, 106, 101, 99, 116]⟩ : ByteArray)), (.slice none 0 0), (.int .i64 1), (.slice none 0 0), (.slice a97 s101.length c98)], _, rfl, ⟨none, 0, none, 0, a97, c98, rfl, SlK.nil, SlK.nil, h1447⟩, ⟨[(.string (⟨#[73]⟩ : ByteArray)), (.string (⟨#[79, 98, 106, 101, 99, 116]⟩ : ByteArray)), (.slice none 0 0), (.int .i64 4), (.slice none 0 0), (.slice a175 ([(api_Method.mk (⟨#[114, 117, 110]⟩ : ByteArray) [] (api_Type.mk x148.Kind x148.Class) false true 0 [] [])].length) c176)], _, rfl, ⟨none, 0, none, 0, a175, c176, rfl, SlK.nil, SlK.nil, h1450⟩, ⟨[(.string (⟨#[74]⟩ : ByteArray)), (.string (⟨#[79, 98, 106, 101, 99, 116]⟩ : ByteArray)), (.slice a180 ([(⟨#[73]⟩ : ByteArray)].length) c181), (.int .i64 4), (.slice none 0 0), (.slice a185 s189.length c186)], _, rfl, ⟨a180, c181, none, 0, a185, c186, rfl, h1453, SlK.nil, h1456⟩, rfl⟩⟩⟩ rfl rfl
    obtain ⟨hm1458, hf⟩ := gs hf
    have hkk40 := ((hk1446.trans hk1449).trans hk1452).trans hk1455
    replace h1442 := h1442.mono hkk40
    refine s_appk (e := 81) 0 hS rfl h1457 h1442 rfl rfl rfl rfl rfl rfl rfl (roomy_le hm1458) rfl rfl rfl ?_
    intro a1459 c1460 w C1461 h1462 hS
    replace hS : Sat w _ (flat [_, _, _, _, _, _, _, _, _, _, _, _]) := hS
    replace hlq := hlq.trans hkk40
    refine d_go [6, 8, 9, 10] [6, 8, 9, 10] [] [] hX hS hlq rfl rfl trivial ?_
    refine d_v (v := (.agg #[(.slice a1459 (([(api_Class.mk (⟨#[77, 97, 105, 110]⟩ : ByteArray) (⟨#[79, 98, 106, 101, 99, 116]⟩ : ByteArray) [] 1 [] s101), (api_Class.mk (⟨#[73]⟩ : ByteArray) (⟨#[79, 98, 106, 101, 99, 116]⟩ : ByteArray) [] 4 [] [(api_Method.mk (⟨#[114, 117, 110]⟩ : ByteArray) [] (api_Type.mk x148.Kind x148.Class) false true 0 [] [])]), (api_Class.mk (⟨#[74]⟩ : ByteArray) (⟨#[79, 98, 106, 101, 99, 116]⟩ : ByteArray) [(⟨#[73]⟩ : ByteArray)] 4 [] s189)] ++ x1435).length) c1460)])) 7 (fun _ _ _ _ _ h => h) [6, 8, 9, 10] hS rfl rfl rfl (by kernel_rfl) rfl rfl ?_
    refine d_op 9 rfl (by kernel_rfl) (by kernel_rfl) (fun X hX => ?_)
    have hlq := KM.le.refl K1454
    refine s_st (cs' := [(.slice a1459 (([(api_Class.mk (⟨#[77, 97, 105, 110]⟩ : ByteArray) (⟨#[79, 98, 106, 101, 99, 116]⟩ : ByteArray) [] 1 [] s101), (api_Class.mk (⟨#[73]⟩ : ByteArray) (⟨#[79, 98, 106, 101, 99, 116]⟩ : ByteArray) [] 4 [] [(api_Method.mk (⟨#[114, 117, 110]⟩ : ByteArray) [] (api_Type.mk x148.Kind x148.Class) false true 0 [] [])]), (api_Class.mk (⟨#[74]⟩ : ByteArray) (⟨#[79, 98, 106, 101, 99, 116]⟩ : ByteArray) [(⟨#[73]⟩ : ByteArray)] 4 [] s189)] ++ x1435).length) c1460)]) 1 hS rfl rfl rfl rfl rfl ?_
    intro w hS
    replace hS : Sat w _ (flat [_, _, _, _, _, _, _, _, _, _, _, _]) := hS
    refine d_go [6, 8, 9, 10] [6, 8, 9, 10] [] [] hX hS hlq rfl rfl trivial ?_
    refine d_end (by kernel_rfl) ?_
    refine qn ?_
    have hkk41 := (((hk1438.trans hk1446).trans hk1449).trans hk1452).trans hk1455
    replace h270 := h270.mono hkk41
    replace h273 := h273.mono hkk41
    replace h276 := h276.mono hkk41
    have h1463 : OwnS 67 K1454 (.slice (some ⟨b277, 0, none⟩) 1 1) [x263] [(b277, Cl (vv67 x263 a268 c269 a271 c272 a274 c275) 67)] := OwnS.lit ⟨(vv67 x263 a268 c269 a271 c272 a274 c275), _, rfl, ⟨a268, c269, a271, c272, a274, c275, rfl, h270, h273, h276⟩, rfl⟩ rfl rfl
    have hq := Option.some.inj hf
    subst hq
    have hkk42 := hkk39.trans hk1455
    replace hle := hle.trans hkk42
    refine s_join hJ _ ⟨K1454, (some ⟨b277, 0, none⟩), 1, [(b277, Cl (vv67 x263 a268 c269 a271 c272 a274 c275) 67)], b1404, a1459, c1460, C1461, rfl, hle, h1463, h1462, (hS.sel [6, 7, 5, 4, 2, 3, 1, 0, 11] rfl)⟩ ⟨rfl, rfl, rfl, rfl, rfl, rfl, trivial⟩
  rintro _ w ⟨K985, a987, c988, C989, b991, a994, c995, C996, rfl, hle, h986, h993, hS⟩
  refine qn (s_seq ?_)
  refine d_start [0, 2, 3, 4] [(11, [6])] hS ?_
  intro w hS
  refine d_v 0 (fun _ _ _ _ _ h => h) [0, 2, 3, 4] hS rfl rfl rfl (by kernel_rfl) rfl rfl ?_
  refine d_ldh 1 0 (fun _ _ _ _ _ h => h) [0, 2, 3, 4] hS rfl rfl rfl (by kernel_rfl) rfl rfl (by kernel_rfl) rfl rfl ?_
  refine d_ld (v := (.agg #[(.string (⟨#[69, 114, 114]⟩ : ByteArray)), (.string (⟨#[70, 97, 117, 108, 116]⟩ : ByteArray)), (.slice none 0 0), (.int .i64 x208), (.slice none 0 0), (.slice none 0 0)])) 2 1 (fun _ _ _ _ _ h => h) [0, 2, 3, 4] hS rfl rfl rfl rfl rfl (by kernel_rfl) rfl rfl ?_
  refine d_ld (v := (.agg #[(.string (⟨#[69, 114, 114, 50]⟩ : ByteArray)), (.string (⟨#[69, 114, 114]⟩ : ByteArray)), (.slice none 0 0), (.int .i64 1), (.slice none 0 0), (.slice none 0 0)])) 3 2 (fun _ _ _ _ _ h => h) [0, 2, 3, 4] hS rfl rfl rfl rfl rfl (by kernel_rfl) rfl rfl ?_
  refine d_ld (v := (.agg #[(.string (⟨#[71, 111, 110, 101]⟩ : ByteArray)), (.string (⟨#[65]⟩ : ByteArray)), (.slice none 0 0), (.int .i64 1), (.slice none 0 0), (.slice a987 ([x263].length) c988)])) 4 3 (fun _ _ _ _ _ h => h) [0, 2, 3, 4] hS rfl rfl rfl rfl rfl (by kernel_rfl) rfl rfl ?_
  refine d_v 5 (fun _ _ _ _ _ h => h) [0, 2, 3, 4] hS rfl rfl rfl (by kernel_rfl) rfl rfl ?_
  refine d_ld 6 0 (fun _ _ _ _ _ h => h) [0, 2, 3, 4] hS rfl rfl rfl rfl rfl (by kernel_rfl) rfl rfl ?_
  refine d_op 7 rfl (by kernel_rfl) (by kernel_rfl) (fun X hX => ?_)
  have hlq := KM.le.refl K985
  obtain ⟨x1488, hx1489, hf⟩ := bs hf
  refine s_call isf53 hS.nilG (bonsaiseat_util_spec hx1489) rfl rfl rfl ?_
  rintro _ K1490 C1492 w hk1491 ⟨a1493, c1494, a1496, c1497, a1499, c1500, rfl, h1495, h1498, h1501⟩ hS
  replace hS := hS.drop1
  replace hlq := hlq.trans hk1491
  refine d_go [0, 2, 3, 4] [0, 2, 3, 4] [(11, [6])] [some 0] hX hS hlq rfl rfl ⟨rfl, trivial⟩ ?_
  refine d_op 8 rfl (by kernel_rfl) (by kernel_rfl) (fun X hX => ?_)
  have hlq := KM.le.refl K1490
  refine s_bwc (cs := ([(.string (⟨#[69, 114, 114]⟩ : ByteArray)), (.string (⟨#[70, 97, 117, 108, 116]⟩ : ByteArray)), (.slice none 0 0), (.int .i64 x208), (.slice none 0 0), (.slice none 0 0)] ++ ([(.string (⟨#[69, 114, 114, 50]⟩ : ByteArray)), (.string (⟨#[69, 114, 114]⟩ : ByteArray)), (.slice none 0 0), (.int .i64 1), (.slice none 0 0), (.slice none 0 0)] ++ ([(.string (⟨#[71, 111, 110, 101]⟩ : ByteArray)), (.string (⟨#[65]⟩ : ByteArray)), (.slice none 0 0), (.int .i64 1), (.slice none 0 0), (.slice a987 ([x263].length) c988)] ++ ((vv81 x1488 a1493 c1494 a1496 c1497 a1499 c1500) ++ []))))) hS rfl rfl rfl rfl rfl rfl rfl rfl rfl rfl ?_
  intro b1502 w hS
  refine d_go [1, 3, 4, 5] [1, 3, 4, 5] [(11, [7])] [some 0] hX hS hlq rfl rfl ⟨rfl, trivial⟩ ?_
  refine d_op 9 rfl (by kernel_rfl) (by kernel_rfl) (fun X hX => ?_)
  have hlq := KM.le.refl K1490
  replace h986 := h986.mono hk1491
  obtain ⟨K1504, hk1505, h1506, hS⟩ := h986.freeze (hS.sel [6, 0, 1, 2, 3, 4, 5, 7, 8, 9] rfl)
  replace hS : Sat w _ (flat [_, _, _, _, _, _, _, _, _]) := hS
  obtain ⟨hm1507, hf⟩ := gs hf
  replace h993 := h993.mono (hk1491.trans hk1505)
  replace h1495 := h1495.mono hk1505
  replace h1498 := h1498.mono hk1505
  replace h1501 := h1501.mono hk1505
  refine s_appv (e := 81) (ys := ([(api_Class.mk (⟨#[69, 114, 114]⟩ : ByteArray) (⟨#[70, 97, 117, 108, 116]⟩ : ByteArray) [] x208 [] []), (api_Class.mk (⟨#[69, 114, 114, 50]⟩ : ByteArray) (⟨#[69, 114, 114]⟩ : ByteArray) [] 1 [] []), (api_Class.mk (⟨#[71, 111, 110, 101]⟩ : ByteArray) (⟨#[65]⟩ : ByteArray) [] 1 [] [x263]), x1488] : List api_Class)) 7 0 hS rfl h993 rfl ⟨[(.string (⟨#[69, 114, 114]⟩ : ByteArray)), (.string (⟨#[70, 97, 117, 108, 116]⟩ : ByteArray)), (.slice none 0 0), (.int .i64 x208), (.slice none 0 0), (.slice none 0 0)], _, rfl, ⟨none, 0, none, 0, none, 0, rfl, SlK.nil, SlK.nil, SlK.nil⟩, ⟨[(.string (⟨#[69, 114, 114, 50]⟩ : ByteArray)), (.string (⟨#[69, 114, 114]⟩ : ByteArray)), (.slice none 0 0), (.int .i64 1), (.slice none 0 0), (.slice none 0 0)], _, rfl, ⟨none, 0, none, 0, none, 0, rfl, SlK.nil, SlK.nil, SlK.nil⟩, ⟨[(.string (⟨#[71, 111, 110, 101]⟩ : ByteArray)), (.string (⟨#[65]⟩ : ByteArray)), (.slice none 0 0), (.int .i64 1), (.slice none 0 0), (.slice a987 ([x263].length) c988)], _, rfl, ⟨none, 0, none, 0, a987, c988, rfl, SlK.nil, SlK.nil, h1506⟩, ⟨(vv81 x1488 a1493 c1494 a1496 c1497 a1499 c1500), _, rfl, ⟨a1493, c1494, a1496, c1497, a1499, c1500, rfl, h1495, h1498, h1501⟩, rfl⟩⟩⟩⟩ rfl rfl rfl rfl rfl rfl rfl rfl (roomy_le hm1507) rfl rfl rfl ?_
  intro a1508 c1509 w C1510 h1511 hS
  replace hS : Sat w _ (flat [_, _, _, _, _, _, _, _, _]) := hS
  replace hlq := hlq.trans hk1505
  refine d_go [1, 3, 4, 5] [1, 3, 4, 5] [(11, [6])] [some 0] hX hS hlq rfl rfl ⟨rfl, trivial⟩ ?_
  refine d_v 10 (fun _ _ _ _ _ h => h) [1, 3, 4, 5] hS rfl rfl rfl (by kernel_rfl) rfl rfl ?_
  refine d_op 11 rfl (by kernel_rfl) (by kernel_rfl) (fun X hX => ?_)
  have hlq := KM.le.refl K1504
  refine s_st (cs' := [(.slice a1508 ((s998 ++ ([(api_Class.mk (⟨#[69, 114, 114]⟩ : ByteArray) (⟨#[70, 97, 117, 108, 116]⟩ : ByteArray) [] x208 [] []), (api_Class.mk (⟨#[69, 114, 114, 50]⟩ : ByteArray) (⟨#[69, 114, 114]⟩ : ByteArray) [] 1 [] []), (api_Class.mk (⟨#[71, 111, 110, 101]⟩ : ByteArray) (⟨#[65]⟩ : ByteArray) [] 1 [] [x263]), x1488] : List api_Class)).length) c1509)]) 6 hS rfl rfl rfl rfl rfl ?_
  intro w hS
  replace hS : Sat w _ (flat [_, _, _, _, _, _, _, _, _]) := hS
  refine d_go [1, 3, 4, 5] [1, 3, 4, 5, 6] [] [none] hX hS hlq rfl rfl ⟨rfl, trivial⟩ ?_
  refine d_end (by kernel_rfl) ?_
  refine qn ?_
  replace hS : Sat w K1504 (flat [_, _, _, _, _]) := (hS.sel [1, 2, 6, 7, 8] rfl)
  obtain ⟨s2131, hst2132, hf⟩ := bs hf
  refine s_cut (fun τ w => ∃ (K2125 : KM) (C2129 : Chunks), τ = [(6, (.pointer (some ⟨b13, 0, none⟩))), (17, (.pointer (some ⟨b991, 0, none⟩)))] ∧ KM.le K K2125 ∧ OwnS 81 K2125 (.slice a1508 s2131.length c1509) s2131 C2129 ∧ Sat w K2125 (flat [[(b13, Cl [(.slice none 0 0)] 74)], [(b991, Cl [(.slice a1508 s2131.length c1509)] 74)], C2129, L])) (fun J hJ => ?_) ?_
  · replace hf := hst2132
    refine s_seq (s_reg ?_)
    refine s_v rfl rfl rfl ?_
    refine s_ld 0 hS rfl rfl rfl rfl rfl ?_
    iterate 2 refine s_v rfl rfl rfl ?_
    refine s_nil (qn ?_)
    replace hS : Sat w K1504 (flat [_, _, _, _]) := (hS.sel [1, 2, 3, 4] rfl)
    refine s_if rfl (fun hc => ?_) (fun hc => ?_)
    · replace hf := bif_t hc hf
      refine s_seq (s_reg ?_)
      refine s_v rfl rfl rfl ?_
      refine s_ld 1 hS rfl rfl rfl rfl rfl ?_
      refine s_v rfl rfl rfl ?_
      refine s_nil (qn (s_seq (s_reg ?_)))
      refine s_v rfl rfl rfl ?_
      refine s_nil (qn (s_block ?_))
      replace hle := hle.trans (hk1491.trans hk1505)
      refine s_loopp (fun n τ w => ∃ (v2549 : (List api_Class)) (v2550 : Int) (K2543 : KM) (C2547 : Chunks), bonsaiseat_Archive.l0 fu n v2549 v2550 = some s2131 ∧ τ = [(6, (.pointer (some ⟨b13, 0, none⟩))), (17, (.pointer (some ⟨b991, 0, none⟩))), (18, (.slice a1508 v2549.length c1509)), (19, (.int .i64 v2550))] ∧ KM.le K K2543 ∧ OwnS 81 K2543 (.slice a1508 v2549.length c1509) v2549 C2547 ∧ Sat w K2543 (flat [[(b13, Cl [(.slice none 0 0)] 74)], [(b991, Cl [(.slice a1508 v2549.length c1509)] 74)], C2547, L])) _ ⟨(s998 ++ ([(api_Class.mk (⟨#[69, 114, 114]⟩ : ByteArray) (⟨#[70, 97, 117, 108, 116]⟩ : ByteArray) [] x208 [] []), (api_Class.mk (⟨#[69, 114, 114, 50]⟩ : ByteArray) (⟨#[69, 114, 114]⟩ : ByteArray) [] 1 [] []), (api_Class.mk (⟨#[71, 111, 110, 101]⟩ : ByteArray) (⟨#[65]⟩ : ByteArray) [] 1 [] [x263]), x1488] : List api_Class)), 0, K1504, C1510, hf, rfl, hle, h1511, hS⟩ ⟨rfl, rfl, rfl, rfl, trivial⟩ ?_ ?_
      · rintro _ _ ⟨_, _, _, _, hf, _⟩
        exact absurd hf (by simp [bonsaiseat_Archive.l0])
      rintro n _ w Y hY ⟨v2549, v2550, K2543, C2547, hf, rfl, hle, h2544, hS⟩
      rw [bonsaiseat_Archive.l0] at hf
      refine s_seq (s_seq (s_reg ?_))
      iterate 5 refine s_v rfl rfl rfl ?_
      refine s_nil (qn ?_)
      refine s_if rfl (fun hc => ?_) (fun hc => ?_)
      · replace hf := bif_t hc hf
        refine s_skip (qn (s_seq (s_block ?_)))
        refine d_start [] [(21, [2])] hS ?_
        intro w hS
        refine d_v 0 (fun _ _ _ _ _ h => h) [] hS rfl rfl rfl (by kernel_rfl) rfl rfl ?_
        refine d_v 1 (fun _ _ _ _ _ h => h) [] hS rfl rfl rfl (by kernel_rfl) rfl rfl ?_
        refine d_v 2 (fun _ _ _ _ _ h => h) [] hS rfl rfl rfl (by kernel_rfl) rfl rfl ?_
        refine d_v 3 (fun _ _ _ _ _ h => h) [] hS rfl rfl rfl (by kernel_rfl) rfl rfl ?_
        refine d_v 4 (fun _ _ _ _ _ h => h) [] hS rfl rfl rfl (by kernel_rfl) rfl rfl ?_
        refine d_v 5 (fun _ _ _ _ _ h => h) [] hS rfl rfl rfl (by kernel_rfl) rfl rfl ?_
        refine d_v 6 (fun _ _ _ _ _ h => h) [] hS rfl rfl rfl (by kernel_rfl) rfl rfl ?_
        refine d_v 7 (fun _ _ _ _ _ h => h) [] hS rfl rfl rfl (by kernel_rfl) rfl rfl ?_
        refine d_v 8 (fun _ _ _ _ _ h => h) [] hS rfl rfl rfl (by kernel_rfl) rfl rfl ?_
        refine d_v 9 (fun _ _ _ _ _ h => h) [] hS rfl rfl rfl (by kernel_rfl) rfl rfl ?_
        refine d_v 10 (fun _ _ _ _ _ h => h) [] hS rfl rfl rfl (by kernel_rfl) rfl rfl ?_
        refine d_v 11 (fun _ _ _ _ _ h => h) [] hS rfl rfl rfl (by kernel_rfl) rfl rfl ?_
        refine d_v 12 (fun _ _ _ _ _ h => h) [] hS rfl rfl rfl (by kernel_rfl) rfl rfl ?_
        refine d_v 13 (fun _ _ _ _ _ h => h) [] hS rfl rfl rfl (by kernel_rfl) rfl rfl ?_
        obtain ⟨x2667, hx2668, hf⟩ := bs hf
        refine d_ixo 14 2 (fun _ _ _ _ _ h => h) [] hS rfl h2544 hx2668 rfl rfl rfl rfl rfl rfl rfl (by kernel_rfl) rfl rfl ?_
        intro b2678 l2679 cs2682 l2680 hcs_ hC2683 hun2681
        obtain ⟨a2669, c2670, a2672, c2673, a2675, c2676, rfl, h2671, h2674, h2677⟩ := hcs_
        subst hC2683
        have hq2684 := KM.le.refl K2543
        refine d_ldmh (v := (.agg (vv81 x2667 a2669 c2670 a2672 c2673 a2675 c2676).toArray)) 15 0 0 (fun _ _ _ _ _ h => h) [] hS rfl rfl rfl (by kernel_rfl) rfl rfl (by kernel_rfl) rfl rfl ?_
        refine d_v 16 (fun _ _ _ _ _ h => h) [] hS rfl rfl rfl (by kernel_rfl) rfl rfl ?_
        refine d_v 17 (fun _ _ _ _ _ h => h) [] hS rfl rfl rfl (by kernel_rfl) rfl rfl ?_
        generalize hCg_ : ([(b2678, Cl (l2679 ++ (((vv81 x2667 a2669 c2670 a2672 c2673 a2675 c2676) : List Value) ++ l2680)) 81)] : Chunks) = C2685 at hS h2544 ⊢
        clear hCg_
        obtain ⟨x2686, hx2687, hf⟩ := bs hf
        refine d_ixo 18 2 (fun _ _ _ _ _ h => h) [] hS rfl h2544 hx2687 rfl rfl rfl rfl rfl rfl rfl (by kernel_rfl) rfl rfl ?_
        intro b2697 l2698 cs2701 l2699 hcs_ hC2702 hun2700
        obtain ⟨a2688, c2689, a2691, c2692, a2694, c2695, rfl, h2690, h2693, h2696⟩ := hcs_
        subst hC2702
        have hq2703 := KM.le.refl K2543
        refine d_ldmh (v := (.agg (vv81 x2686 a2688 c2689 a2691 c2692 a2694 c2695).toArray)) 19 0 0 (fun _ _ _ _ _ h => h) [] hS rfl rfl rfl (by kernel_rfl) rfl rfl (by kernel_rfl) rfl rfl ?_
        generalize hCg_ : ([(b2697, Cl (l2698 ++ (((vv81 x2686 a2688 c2689 a2691 c2692 a2694 c2695) : List Value) ++ l2699)) 81)] : Chunks) = C2704 at hS h2544 ⊢
        clear hCg_
        obtain ⟨x2705, hx2706, hf⟩ := bs hf
        refine d_ixo 20 2 (fun _ _ _ _ _ h => h) [] hS rfl h2544 hx2706 rfl rfl rfl rfl rfl rfl rfl (by kernel_rfl) rfl rfl ?_
        intro b2716 l2717 cs2720 l2718 hcs_ hC2721 hun2719
        obtain ⟨a2707, c2708, a2710, c2711, a2713, c2714, rfl, h2709, h2712, h2715⟩ := hcs_
        subst hC2721
        have hq2722 := KM.le.refl K2543
        refine d_op 21 rfl (by kernel_rfl) (by kernel_rfl) (fun X hX => ?_)
        have hlq := KM.le.refl K2543
        refine s_stm (cs' := (vv81 x2667 a2669 c2670 a2672 c2673 a2675 c2676)) 2 0 hS rfl rfl rfl rfl rfl ?_
        intro w hS
        replace hS : Sat w _ (flat [_, _, _, _]) := hS
        have h2723 := hun2719 K2543 _ _ hq2722 (show GoData.cells 81 _ x2667 _ from ⟨a2669, c2670, a2672, c2673, a2675, c2676, rfl, h2671, h2674, h2677⟩)
        have hl2724 := OwnS.len h2723
        refine d_go [] [] [(23, [2])] [none] hX hS hlq rfl rfl ⟨rfl, trivial⟩ ?_
        generalize hCg_ : ([(b2716, Cl (l2717 ++ (((vv81 x2667 a2669 c2670 a2672 c2673 a2675 c2676) : List Value) ++ l2718)) 81)] : Chunks) = C2725 at hS h2723 ⊢
        clear hCg_
        obtain ⟨x2726, hx2727, hf⟩ := bs hf
        refine d_ixo 22 2 (fun _ _ _ _ _ h => h) [] hS rfl h2723 hx2727 rfl rfl rfl rfl rfl rfl rfl (by kernel_rfl) rfl rfl ?_
        intro b2737 l2738 cs2741 l2739 hcs_ hC2742 hun2740
        obtain ⟨a2728, c2729, a2731, c2732, a2734, c2735, rfl, h2730, h2733, h2736⟩ := hcs_
        subst hC2742
        have hq2743 := KM.le.refl K2543
        refine d_op 23 rfl (by kernel_rfl) (by kernel_rfl) (fun X hX => ?_)
        have hlq := KM.le.refl K2543
        refine s_stm (cs' := (vv81 x2686 a2688 c2689 a2691 c2692 a2694 c2695)) 2 0 hS rfl rfl rfl rfl rfl ?_
        intro w hS
        replace hS : Sat w _ (flat [_, _, _, _]) := hS
        have h2744 := hun2740 K2543 _ _ hq2743 (show GoData.cells 81 _ x2686 _ from ⟨a2688, c2689, a2691, c2692, a2694, c2695, rfl, h2690, h2693, h2696⟩)
        have hl2745 := OwnS.len h2744
        refine d_go [] [2] [] [none] hX hS hlq rfl rfl ⟨rfl, trivial⟩ ?_
        refine d_end (by kernel_rfl) ?_
        refine qbn (qn (s_reg ?_))
        iterate 3 refine s_v rfl rfl rfl ?_
        refine s_nil (qn ?_)
        refine s_join hY _ ⟨((v2549.set (v2550 : Int).toNat x2667).set (w64 ((w64 ((v2549.length : Int) - 1)) - v2550) : Int).toNat x2686), w64 (v2550 + 1), K2543, [(b2737, Cl (l2738 ++ (((vv81 x2686 a2688 c2689 a2691 c2692 a2694 c2695) : List Value) ++ l2739)) 81)], hf, rfl, hle, (OwnS.norm h2744), (by (try rw [hl2745]); (try rw [hl2745]); exact hS)⟩ ⟨rfl, rfl, (by rw [hl2745]; rfl), rfl, trivial⟩
      replace hf := bif_f hc hf
      refine s_exit (qxt (qxt (qxb (qn ?_))))
      have hq := Option.some.inj hf
      subst hq
      refine s_join hJ _ ⟨K2543, C2547, rfl, hle, h2544, hS⟩ ⟨rfl, rfl, trivial⟩
    replace hf := bif_f hc hf
    refine s_skip (qn ?_)
    have hq := Option.some.inj hf
    subst hq
    replace hle := hle.trans (hk1491.trans hk1505)
    refine s_join hJ _ ⟨K1504, C1510, rfl, hle, h1511, hS⟩ ⟨rfl, rfl, trivial⟩
  rintro _ w ⟨K2125, C2129, rfl, hle, h2126, hS⟩
  refine s_seq (s_reg ?_)
  refine s_ld (v := (.agg #[(.slice a1508 s2131.length c1509)])) 1 hS rfl rfl rfl rfl rfl ?_
  refine s_st (cs' := [(.slice a1508 s2131.length c1509)]) 0 hS rfl rfl rfl rfl rfl ?_
  intro w hS
  replace hS : Sat w _ (flat [_, _, _, _]) := hS
  refine s_nil (qn ?_)
  replace hS : Sat w K2125 (flat [_, _, _]) := (hS.sel [0, 2, 3] rfl)
  refine s_rets ?_
  obtain ⟨K2746, hk2747, h2748, hS⟩ := h2126.freeze (hS.sel [1, 0, 2] rfl)
  replace hS : Sat w _ (flat [_, _]) := hS
  have hq := Option.some.inj hf
  subst hq
  refine s_ret1 rfl (rv_c (v := (.agg #[(.slice a1508 s2131.length c1509)])) 0 hS rfl rfl rfl) ?_
  replace hle := hle.trans hk2747
  exact ⟨K2746, _, hle, ⟨a1508, c1509, rfl, h2748⟩, Sat.nilG (hS.sel [1] rfl)⟩
end Go.Proofs.Ytgaldjnnfkdohaa
