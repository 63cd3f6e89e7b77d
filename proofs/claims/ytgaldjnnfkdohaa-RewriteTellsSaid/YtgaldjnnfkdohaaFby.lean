/- Functions of the program, and their walks: what each reckons, and that its code reckons it. -/
import Derived.Test.YtgaldjnnfkdohaaFbx
set_option linter.unusedVariables false
set_option linter.unusedSimpArgs false
set_option maxHeartbeats 0
set_option maxRecDepth 100000
namespace Go.Proofs.Ytgaldjnnfkdohaa
open Go Go.Fw
noncomputable def bod62 : Code := Try.f62.body.getD .skip
theorem isf62 : IsFn Try.prog 62 Try.f62 bod62 := ⟨Try.func62, rfl, by decide⟩
noncomputable def bod45 : Code := Try.f45.body.getD .skip
theorem isf45 : IsFn Try.prog 45 Try.f45 bod45 := ⟨Try.func45, rfl, by decide⟩
-- 62 (*bonsai/bonsaiseat.builder).objects
def bonsaiseat_builder_objects.fn (p1 : bonsaiseat_builder) (p14 : Int) (p15 : Int) : Option bonsaiseat_builder := (bonsaiseat_at.fn 4 3).bind fun x17 => (bif p14 == 16 then (some (p14 == 16)) else (some (p14 == 17))).bind fun s35 => bif s35 then ((bonsaiseat_class.fn p15).bind fun x37 => (bonsaiseat_of.fn 25 x37).bind fun x42 => (bonsaiseat_at.fn 5 3).bind fun x47 => (bonsaiseat_builder_add.fn p1 [x42, x47]).bind fun x58 => some x58) else (bif p14 == 18 then ((bonsaiseat_one.fn 3).bind fun x74 => (bonsaiseat_at.fn 5 3).bind fun x79 => (bonsaiseat_builder_add.fn p1 [x74, x79]).bind fun x90 => some x90) else (bif p14 == 19 then ((bonsaiseat_call.fn 34 (⟨#[66, 97, 115, 101]⟩ : ByteArray) (⟨#[114, 117, 110]⟩ : ByteArray) (⟨#[40, 41, 73]⟩ : ByteArray)).bind fun x138 => (bonsaiseat_at.fn 5 0).bind fun x143 => (bonsaiseat_builder_add.fn p1 [x17, x138, x143]).bind fun x154 => some x154) else (bif p14 == 20 then ((bonsaiseat_of.fn 30 (⟨#[73]⟩ : ByteArray)).bind fun x202 => (bonsaiseat_at.fn 5 4).bind fun x207 => (bonsaiseat_builder_add.fn p1 [x17, x202, x207]).bind fun x218 => some x218) else (bif p14 == 21 then ((bonsaiseat_at.fn 4 4).bind fun x234 => (bonsaiseat_call.fn 35 (⟨#[73]⟩ : ByteArray) (⟨#[114, 117, 110]⟩ : ByteArray) (⟨#[40, 41, 73]⟩ : ByteArray)).bind fun x239 => (bonsaiseat_at.fn 5 0).bind fun x244 => (bonsaiseat_builder_add.fn p1 [x234, x239, x244]).bind fun x255 => (bonsaiseat_builder_try.fn x255 (p1.l_.length : Int) (⟨#[78, 117, 108, 108, 70, 97, 117, 108, 116]⟩ : ByteArray) (⟨#[110, 117, 108, 108]⟩ : ByteArray)).bind fun x271 => some x271) else (bif p14 == 22 then ((bonsaiseat_call.fn 34 (⟨#[66, 97, 115, 101]⟩ : ByteArray) (⟨#[110, 97, 109, 101]⟩ : ByteArray) (⟨#[40, 41, 83]⟩ : ByteArray)).bind fun x319 => (bonsaiseat_one.fn 41).bind fun x324 => (bonsaiseat_builder_add.fn p1 [x17, x319, x324]).bind fun x335 => some x335) else (bif p14 == 23 then ((bonsaiseat_at.fn 4 0).bind fun x383 => (bonsaiseat_part.fn 27 (⟨#[66, 97, 115, 101]⟩ : ByteArray) (⟨#[120]⟩ : ByteArray)).bind fun x388 => (bonsaiseat_builder_add.fn p1 [x17, x383, x388]).bind fun x399 => some x399) else (bif p14 == 24 then ((bonsaiseat_part.fn 26 (⟨#[66, 97, 115, 101]⟩ : ByteArray) (⟨#[120]⟩ : ByteArray)).bind fun x447 => (bonsaiseat_at.fn 5 0).bind fun x452 => (bonsaiseat_builder_add.fn p1 [x17, x447, x452]).bind fun x463 => some x463) else (bif p14 == 25 then ((bonsaiseat_num.fn (w64 p15)).bind fun x511 => (bonsaiseat_part.fn 27 (⟨#[66, 97, 115, 101]⟩ : ByteArray) (⟨#[119]⟩ : ByteArray)).bind fun x516 => (bonsaiseat_builder_add.fn p1 [x17, x511, x516]).bind fun x527 => some x527) else (bif p14 == 26 then ((bonsaiseat_part.fn 28 (⟨#[65]⟩ : ByteArray) (⟨#[99, 111, 117, 110, 116]⟩ : ByteArray)).bind fun x543 => (bonsaiseat_num.fn 1).bind fun x548 => (bonsaiseat_one.fn 8).bind fun x553 => (bonsaiseat_part.fn 29 (⟨#[65]⟩ : ByteArray) (⟨#[99, 111, 117, 110, 116]⟩ : ByteArray)).bind fun x558 => (bonsaiseat_builder_add.fn p1 [x543, x548, x553, x558]).bind fun x569 => some x569) else (bif p14 == 27 then (((bonsaiseat_at.fn 4 0).bind fun x982 => (idx ([(⟨#[85, 116, 105, 108]⟩ : ByteArray), (⟨#[68]⟩ : ByteArray)] : List ByteArray) (Int.tmod p15 2)).bind fun x991 => (bonsaiseat_part.fn 29 x991 (⟨#[119, 97, 115, 116, 101]⟩ : ByteArray)).bind fun x1000 => (bonsaiseat_builder_add.fn p1 [x982, x1000]).bind fun x1011 => some (x1011.l_, x1011.h_)).bind fun s882 => some (bonsaiseat_builder.mk s882.1 s882.2)) else (bif p14 == 28 then (((bonsaiseat_at.fn 4 0).bind fun x1509 => (idx ([(⟨#[105, 110, 99]⟩ : ByteArray), (⟨#[116, 119, 105, 99, 101]⟩ : ByteArray), (⟨#[119, 111, 114, 107]⟩ : ByteArray), (⟨#[100, 111, 119, 110]⟩ : ByteArray)] : List ByteArray) (Int.tmod p15 4)).bind fun x1518 => (bonsaiseat_call.fn 36 (⟨#[85, 116, 105, 108]⟩ : ByteArray) x1518 (⟨#[40, 73, 41, 73]⟩ : ByteArray)).bind fun x1527 => (bonsaiseat_at.fn 5 0).bind fun x1532 => (bonsaiseat_builder_add.fn p1 [x1509, x1527, x1532]).bind fun x1543 => some (x1543.l_, x1543.h_)).bind fun s1399 => some (bonsaiseat_builder.mk s1399.1 s1399.2)) else (bif p14 == 29 then ((bonsaiseat_call.fn 36 (⟨#[85, 116, 105, 108]⟩ : ByteArray) (⟨#[115, 97, 109, 101]⟩ : ByteArray) (⟨#[40, 76, 66, 97, 115, 101, 59, 41, 76, 66, 97, 115, 101, 59]⟩ : ByteArray)).bind fun x1641 => (bonsaiseat_at.fn 5 3).bind fun x1646 => (bonsaiseat_builder_add.fn p1 [x17, x1641, x1646]).bind fun x1657 => some x1657) else (bif p14 == 30 then ((bonsaiseat_call.fn 36 (⟨#[85, 116, 105, 108]⟩ : ByteArray) (⟨#[102, 97, 105, 108]⟩ : ByteArray) (⟨#[40, 41, 86]⟩ : ByteArray)).bind fun x1673 => (bonsaiseat_builder_add.fn p1 [x1673]).bind fun x1684 => (idx ([(⟨#[69, 114, 114]⟩ : ByteArray), (⟨#[69, 114, 114, 50]⟩ : ByteArray), (⟨#[70, 97, 117, 108, 116]⟩ : ByteArray), (⟨#[78, 117, 108, 108, 70, 97, 117, 108, 116]⟩ : ByteArray)] : List ByteArray) (Int.tmod p15 4)).bind fun x1704 => (bonsaiseat_builder_try.fn x1684 (p1.l_.length : Int) x1704 (⟨#[101, 114, 114]⟩ : ByteArray)).bind fun x1713 => some x1713) else (bif p14 == 31 then ((bonsaiseat_part.fn 27 (⟨#[66, 97, 115, 101]⟩ : ByteArray) (⟨#[110, 101, 120, 116]⟩ : ByteArray)).bind fun x1766 => (bonsaiseat_part.fn 26 (⟨#[66, 97, 115, 101]⟩ : ByteArray) (⟨#[110, 101, 120, 116]⟩ : ByteArray)).bind fun x1771 => (bonsaiseat_at.fn 5 3).bind fun x1776 => (bonsaiseat_builder_add.fn p1 [x17, x17, x1766, x17, x1771, x1776]).bind fun x1787 => some x1787) else (bif p14 == 32 then ((idx ([(⟨#[66]⟩ : ByteArray), (⟨#[77, 105, 100]⟩ : ByteArray), (⟨#[73]⟩ : ByteArray), (⟨#[66, 97, 115, 101]⟩ : ByteArray), (⟨#[79, 98, 106, 101, 99, 116]⟩ : ByteArray), (⟨#[67]⟩ : ByteArray)] : List ByteArray) (Int.tmod p15 6)).bind fun x1852 => (bonsaiseat_of.fn 31 x1852).bind fun x1861 => (bonsaiseat_at.fn 5 0).bind fun x1866 => (bonsaiseat_builder_add.fn p1 [x17, x1861, x1866]).bind fun x1877 => some x1877) else (bif p14 == 33 then ((idx ([(⟨#[66]⟩ : ByteArray), (⟨#[77, 105, 100]⟩ : ByteArray), (⟨#[65]⟩ : ByteArray), (⟨#[68]⟩ : ByteArray)] : List ByteArray) (Int.tmod p15 4)).bind fun x1942 => (bonsaiseat_of.fn 30 x1942).bind fun x1951 => (bonsaiseat_at.fn 5 3).bind fun x1956 => (bonsaiseat_builder_add.fn p1 [x17, x1951, x1956]).bind fun x1967 => (idx ([(⟨#[67, 97, 115, 116, 70, 97, 117, 108, 116]⟩ : ByteArray), (⟨#[70, 97, 117, 108, 116]⟩ : ByteArray)] : List ByteArray) (Int.tmod (w8 (Int.tdiv p15 4)) 2)).bind fun x1987 => (bonsaiseat_builder_try.fn x1967 (p1.l_.length : Int) x1987 (⟨#[99, 97, 115, 116]⟩ : ByteArray)).bind fun x1996 => some x1996) else (bif p14 == 34 then ((bonsaiseat_part.fn 26 (⟨#[66, 97, 115, 101]⟩ : ByteArray) (⟨#[110, 101, 120, 116]⟩ : ByteArray)).bind fun x2049 => (bonsaiseat_one.fn 32).bind fun x2054 => (bonsaiseat_at.fn 5 0).bind fun x2059 => (bonsaiseat_builder_add.fn p1 [x17, x17, x2049, x2054, x2059]).bind fun x2070 => some x2070) else (bif p14 == 35 then ((bonsaiseat_one.fn 33).bind fun x2113 => (bonsaiseat_builder_add.fn p1 [x17, x2113]).bind fun x2124 => (bonsaiseat_builder_try.fn x2124 (p1.l_.length : Int) (⟨#[78, 117, 108, 108, 70, 97, 117, 108, 116]⟩ : ByteArray) (⟨#[99, 104, 101, 99, 107]⟩ : ByteArray)).bind fun x2140 => some x2140) else (bif p14 == 36 then ((bonsaiseat_of.fn 25 (⟨#[67]⟩ : ByteArray)).bind fun x2156 => (bonsaiseat_one.fn 7).bind fun x2161 => (bonsaiseat_num.fn (w64 p15)).bind fun x2166 => (bonsaiseat_part.fn 27 (⟨#[77, 105, 100]⟩ : ByteArray) (⟨#[109]⟩ : ByteArray)).bind fun x2171 => (bonsaiseat_call.fn 34 (⟨#[67]⟩ : ByteArray) (⟨#[101, 120, 116, 114, 97]⟩ : ByteArray) (⟨#[40, 41, 73]⟩ : ByteArray)).bind fun x2176 => (bonsaiseat_at.fn 5 0).bind fun x2181 => (bonsaiseat_builder_add.fn p1 [x2156, x2161, x2166, x2171, x2176, x2181]).bind fun x2192 => some x2192) else (bif p14 == 37 then ((bonsaiseat_call.fn 36 (⟨#[85, 116, 105, 108]⟩ : ByteArray) (⟨#[112, 97, 115, 115]⟩ : ByteArray) (⟨#[40, 76, 73, 59, 41, 76, 73, 59]⟩ : ByteArray)).bind fun x2240 => (bonsaiseat_at.fn 5 4).bind fun x2245 => (bonsaiseat_builder_add.fn p1 [x17, x2240, x2245]).bind fun x2256 => (bonsaiseat_at.fn 4 4).bind fun x2288 => (idx x2256.l_ (p1.l_.length : Int)).bind fun x2293 => some (bonsaiseat_builder.mk (x2256.l_.set ((p1.l_.length : Int) : Int).toNat x2288) x2256.h_)) else (bif p14 == 38 then ((idx ([(⟨#[69, 114, 114]⟩ : ByteArray), (⟨#[69, 114, 114, 50]⟩ : ByteArray), (⟨#[66, 111, 117, 110, 100, 115, 70, 97, 117, 108, 116]⟩ : ByteArray)] : List ByteArray) (Int.tmod p15 3)).bind fun x2309 => (bonsaiseat_of.fn 25 x2309).bind fun x2318 => (bonsaiseat_one.fn 38).bind fun x2323 => (bonsaiseat_builder_add.fn p1 [x2318, x2323]).bind fun x2334 => (idx ([(⟨#[69, 114, 114]⟩ : ByteArray), (⟨#[70, 97, 117, 108, 116]⟩ : ByteArray)] : List ByteArray) (Int.tmod p15 2)).bind fun x2354 => (bonsaiseat_builder_try.fn x2334 (p1.l_.length : Int) x2354 (⟨#[116, 104, 114, 111, 119, 110]⟩ : ByteArray)).bind fun x2363 => some x2363) else ((bonsaiseat_call.fn 36 (⟨#[85, 116, 105, 108]⟩ : ByteArray) (⟨#[115, 104, 111, 119]⟩ : ByteArray) (⟨#[40, 41, 86]⟩ : ByteArray)).bind fun x2379 => (bonsaiseat_builder_add.fn p1 [x2379]).bind fun x2390 => some x2390))))))))))))))))))))))
theorem bonsaiseat_builder_objects_spec {K : KM} {p1 : bonsaiseat_builder} {p14 : Int} {p15 : Int} {r : bonsaiseat_builder} {b2 : Nat} {a3 : Option Addr} {c4 : Nat} {a6 : Option Addr} {c7 : Nat} {C10 : Chunks} {C11 : Chunks} (hf : bonsaiseat_builder_objects.fn p1 p14 p15 = some r) (h5 : OwnS 77 K (.slice a3 p1.l_.length c4) p1.l_ C10) (h8 : OwnS 92 K (.slice a6 p1.h_.length c7) p1.h_ C11) : Sp Try.prog 62 [(.pointer (some ⟨b2, 0, none⟩)), (.int .u8 p14), (.int .u8 p15)] K (flat [[(b2, Cl (vv127 p1 a3 c4 a6 c7) 127)], C10, C11]) (fun K' C v => ∃ (a2406 : Option Addr) (c2407 : Nat) (a2409 : Option Addr) (c2410 : Nat) (C_0 : Chunks) (C_1 : Chunks), v = (.tuple #[]) ∧ OwnS 77 K' (.slice a2406 r.l_.length c2407) r.l_ C_0 ∧ OwnS 92 K' (.slice a2409 r.h_.length c2410) r.h_ C_1 ∧ C = flat [[(b2, Cl (vv127 r a2406 c2407 a2409 c2410) 127)], C_0, C_1]) := by
  unfold bonsaiseat_builder_objects.fn at hf
  refine spec_enter isf62 rfl ?_
  intro w L hS
  replace hS : Sat w K (flat [[(b2, Cl (vv127 p1 a3 c4 a6 c7) 127)], C10, C11, L]) := hS.open
  have hle := KM.le.refl K
  unfold bod62 Try.f62
  dsimp only [Option.getD_some, argSlots]
  refine s_seq (s_reg ?_)
  iterate 3 refine s_v rfl rfl rfl ?_
  refine s_ld 0 hS rfl rfl rfl rfl rfl ?_
  iterate 2 refine s_v rfl rfl rfl ?_
  refine s_nil (qn (s_seq (s_reg ?_)))
  obtain ⟨x17, hx18, hf⟩ := bs hf
  refine s_call isf51 hS.nilG (bonsaiseat_at_spec hx18) rfl rfl rfl ?_
  rintro _ K19 C21 w hk20 rfl hS
  replace hS := hS.drop1
  refine s_al hS rfl rfl rfl ?_
  intro b22 w hS
  replace hS : Sat w K19 (flat ([(b22, Cl [(.int .i64 0), (.int .i32 0), (.int .i64 0), (.string ByteArray.empty), (.string ByteArray.empty), (.string ByteArray.empty), (.string ByteArray.empty)] 77)] :: _)) := hS
  refine s_st (cs' := (vv77 x17)) 0 hS rfl rfl rfl rfl rfl ?_
  intro w hS
  replace hS : Sat w _ (flat [_, _, _, _, _]) := hS
  refine s_nil (qn (s_seq (s_reg ?_)))
  refine s_v rfl rfl rfl ?_
  refine s_nil (qn (s_block ?_))
  obtain ⟨s35, hst36, hf⟩ := bs hf
  refine s_cut (fun τ w => ∃ (K24 : KM) (C28 : Chunks) (C33 : Chunks), τ = [(0, (.pointer (some ⟨b2, 0, none⟩))), (2, (.int .u8 p15)), (6, (.int .i64 (p1.l_.length : Int))), (7, (.pointer (some ⟨b22, 0, none⟩))), (14, (.int .u8 p14)), (19, (.bool s35))] ∧ KM.le K K24 ∧ OwnS 77 K24 (.slice a3 p1.l_.length c4) p1.l_ C28 ∧ OwnS 92 K24 (.slice a6 p1.h_.length c7) p1.h_ C33 ∧ Sat w K24 (flat [[(b2, Cl (vv127 p1 a3 c4 a6 c7) 127)], C28, C33, [(b22, Cl (vv77 x17) 77)], L])) (fun J hJ => ?_) ?_
  · replace hf := hst36
    refine s_seq (s_reg ?_)
    iterate 2 refine s_v rfl rfl rfl ?_
    refine s_nil (qn ?_)
    refine s_if rfl (fun hc => ?_) (fun hc => ?_)
    · replace hf := bif_t hc hf
      refine s_skip (qn ?_)
      have hq := Option.some.inj hf
      subst hq
      replace h5 := h5.mono hk20
      replace h8 := h8.mono hk20
      replace hle := hle.trans hk20
      refine s_join hJ _ ⟨K19, C10, C11, rfl, hle, h5, h8, (hS.sel [1, 2, 3, 0, 4] rfl)⟩ ⟨rfl, rfl, rfl, rfl, rfl, rfl, trivial⟩
    replace hf := bif_f hc hf
    refine s_reg ?_
    iterate 2 refine s_v rfl rfl rfl ?_
    refine s_nil (qn ?_)
    have hq := Option.some.inj hf
    subst hq
    replace h5 := h5.mono hk20
    replace h8 := h8.mono hk20
    replace hle := hle.trans hk20
    refine s_join hJ _ ⟨K19, C10, C11, rfl, hle, h5, h8, (hS.sel [1, 2, 3, 0, 4] rfl)⟩ ⟨rfl, rfl, rfl, rfl, rfl, rfl, trivial⟩
  rintro _ w ⟨K24, C28, C33, rfl, hle, h25, h30, hS⟩
  refine s_if rfl (fun hc => ?_) (fun hc => ?_)
  · replace hf := bif_t hc hf
    refine s_reg ?_
    iterate 2 refine s_v rfl rfl rfl ?_
    obtain ⟨x37, hx38, hf⟩ := bs hf
    refine s_call isf69 hS.nilG (bonsaiseat_class_spec hx38) rfl rfl rfl ?_
    rintro _ K39 C41 w hk40 rfl hS
    replace hS := hS.drop1
    obtain ⟨x42, hx43, hf⟩ := bs hf
    refine s_call isf49 hS.nilG (bonsaiseat_of_spec hx43) rfl rfl rfl ?_
    rintro _ K44 C46 w hk45 rfl hS
    replace hS := hS.drop1
    obtain ⟨x47, hx48, hf⟩ := bs hf
    refine s_call isf51 hS.nilG (bonsaiseat_at_spec hx48) rfl rfl rfl ?_
    rintro _ K49 C51 w hk50 rfl hS
    replace hS := hS.drop1
    refine s_bwc (cs := ((vv77 x42) ++ ((vv77 x47) ++ []))) hS rfl rfl rfl rfl rfl rfl rfl rfl rfl rfl ?_
    intro b52 w hS
    have h54 : OwnS 77 K49 (.slice (some ⟨b52, 0, none⟩) 2 2) [x42, x47] [(b52, Cl ((vv77 x42) ++ ((vv77 x47) ++ [])) 77)] := OwnS.lit ⟨(vv77 x42), _, rfl, rfl, ⟨(vv77 x47), _, rfl, rfl, rfl⟩⟩ rfl rfl
    obtain ⟨K55, hk56, h57, hS⟩ := h54.freeze (hS.sel [0, 1, 2, 3, 4, 5] rfl)
    replace hS : Sat w _ (flat [_, _, _, _, _]) := hS
    obtain ⟨x58, hx59, hf⟩ := bs hf
    have hkk0 := ((hk40.trans hk45).trans hk50).trans hk56
    replace h25 := h25.mono hkk0
    replace h30 := h30.mono hkk0
    refine s_call isf58 (Sat.shut3 hS) (bonsaiseat_builder_add_spec hx59 h25 h30 h57) rfl rfl rfl ?_
    rintro _ K60 _ w hk61 ⟨a63, c64, a66, c67, C70, C71, rfl, h65, h68, rfl⟩ hS
    replace hS := hS.open3
    refine s_nil (qbn ?_)
    have hq := Option.some.inj hf
    subst hq
    refine s_fall0 rfl ?_
    have hkk1 := hkk0.trans hk61
    replace hle := hle.trans hkk1
    exact ⟨K60, _, hle, ⟨a63, c64, a66, c67, C70, C71, rfl, h65, h68, rfl⟩, Sat.shut3 (hS.sel [0, 1, 2, 4] rfl)⟩
  replace hf := bif_f hc hf
  refine s_seq (s_reg ?_)
  iterate 2 refine s_v rfl rfl rfl ?_
  refine s_nil (qn ?_)
  refine s_if rfl (fun hc => ?_) (fun hc => ?_)
  · replace hf := bif_t hc hf
    refine s_reg ?_
    refine s_v rfl rfl rfl ?_
    obtain ⟨x74, hx75, hf⟩ := bs hf
    refine s_call isf50 hS.nilG (bonsaiseat_one_spec hx75) rfl rfl rfl ?_
    rintro _ K76 C78 w hk77 rfl hS
    replace hS := hS.drop1
    obtain ⟨x79, hx80, hf⟩ := bs hf
    refine s_call isf51 hS.nilG (bonsaiseat_at_spec hx80) rfl rfl rfl ?_
    rintro _ K81 C83 w hk82 rfl hS
    replace hS := hS.drop1
    refine s_bwc (cs := ((vv77 x74) ++ ((vv77 x79) ++ []))) hS rfl rfl rfl rfl rfl rfl rfl rfl rfl rfl ?_
    intro b84 w hS
    have h86 : OwnS 77 K81 (.slice (some ⟨b84, 0, none⟩) 2 2) [x74, x79] [(b84, Cl ((vv77 x74) ++ ((vv77 x79) ++ [])) 77)] := OwnS.lit ⟨(vv77 x74), _, rfl, rfl, ⟨(vv77 x79), _, rfl, rfl, rfl⟩⟩ rfl rfl
    obtain ⟨K87, hk88, h89, hS⟩ := h86.freeze (hS.sel [0, 1, 2, 3, 4, 5] rfl)
    replace hS : Sat w _ (flat [_, _, _, _, _]) := hS
    obtain ⟨x90, hx91, hf⟩ := bs hf
    replace h25 := h25.mono ((hk77.trans hk82).trans hk88)
    replace h30 := h30.mono ((hk77.trans hk82).trans hk88)
    refine s_call isf58 (Sat.shut3 hS) (bonsaiseat_builder_add_spec hx91 h25 h30 h89) rfl rfl rfl ?_
    rintro _ K92 _ w hk93 ⟨a95, c96, a98, c99, C102, C103, rfl, h97, h100, rfl⟩ hS
    replace hS := hS.open3
    refine s_nil (qbn ?_)
    have hq := Option.some.inj hf
    subst hq
    refine s_fall0 rfl ?_
    have hkk2 := ((hk77.trans hk82).trans hk88).trans hk93
    replace hle := hle.trans hkk2
    exact ⟨K92, _, hle, ⟨a95, c96, a98, c99, C102, C103, rfl, h97, h100, rfl⟩, Sat.shut3 (hS.sel [0, 1, 2, 4] rfl)⟩
  replace hf := bif_f hc hf
  refine s_seq (s_reg ?_)
  iterate 2 refine s_v rfl rfl rfl ?_
  refine s_nil (qn ?_)
  refine s_if rfl (fun hc => ?_) (fun hc => ?_)
  · replace hf := bif_t hc hf
    refine d_start [3] [] hS ?_
    intro w hS
    refine d_v 0 (fun _ _ _ _ _ h => h) [3] hS rfl rfl rfl (by kernel_rfl) rfl rfl ?_
    refine d_ld (v := (.agg (vv77 x17).toArray)) 1 0 (fun _ _ _ _ _ h => h) [3] hS rfl rfl rfl rfl rfl (by kernel_rfl) rfl rfl ?_
    refine d_op 2 rfl (by kernel_rfl) (by kernel_rfl) (fun X hX => ?_)
    have hlq := KM.le.refl K24
    obtain ⟨x138, hx139, hf⟩ := bs hf
    refine s_call isf65 hS.nilG (bonsaiseat_call_spec hx139) rfl rfl rfl ?_
    rintro _ K140 C142 w hk141 rfl hS
    replace hS := hS.drop1
    replace hlq := hlq.trans hk141
    refine d_go [3] [3] [] [] hX hS hlq rfl rfl trivial ?_
    refine d_op 3 rfl (by kernel_rfl) (by kernel_rfl) (fun X hX => ?_)
    have hlq := KM.le.refl K140
    obtain ⟨x143, hx144, hf⟩ := bs hf
    refine s_call isf51 hS.nilG (bonsaiseat_at_spec hx144) rfl rfl rfl ?_
    rintro _ K145 C147 w hk146 rfl hS
    replace hS := hS.drop1
    replace hlq := hlq.trans hk146
    refine d_go [3] [3] [] [] hX hS hlq rfl rfl trivial ?_
    refine d_op 4 rfl (by kernel_rfl) (by kernel_rfl) (fun X hX => ?_)
    have hlq := KM.le.refl K145
    refine s_bwc (cs := ((vv77 x17) ++ ((vv77 x138) ++ ((vv77 x143) ++ [])))) hS rfl rfl rfl rfl rfl rfl rfl rfl rfl rfl ?_
    intro b148 w hS
    refine d_go [4] [4] [] [] hX hS hlq rfl rfl trivial ?_
    refine d_op 5 rfl (by kernel_rfl) (by kernel_rfl) (fun X hX => ?_)
    have hlq := KM.le.refl K145
    have h150 : OwnS 77 K145 (.slice (some ⟨b148, 0, none⟩) 3 3) [x17, x138, x143] [(b148, Cl ((vv77 x17) ++ ((vv77 x138) ++ ((vv77 x143) ++ []))) 77)] := OwnS.lit ⟨(vv77 x17), _, rfl, rfl, ⟨(vv77 x138), _, rfl, rfl, ⟨(vv77 x143), _, rfl, rfl, rfl⟩⟩⟩ rfl rfl
    obtain ⟨K151, hk152, h153, hS⟩ := h150.freeze (hS.sel [0, 1, 2, 3, 4, 5] rfl)
    replace hS : Sat w _ (flat [_, _, _, _, _]) := hS
    obtain ⟨x154, hx155, hf⟩ := bs hf
    replace h25 := h25.mono ((hk141.trans hk146).trans hk152)
    replace h30 := h30.mono ((hk141.trans hk146).trans hk152)
    refine s_call isf58 (Sat.shut3 hS) (bonsaiseat_builder_add_spec hx155 h25 h30 h153) rfl rfl rfl ?_
    rintro _ K156 _ w hk157 ⟨a159, c160, a162, c163, C166, C167, rfl, h161, h164, rfl⟩ hS
    replace hS := hS.open3
    replace hlq := hlq.trans (hk152.trans hk157)
    refine d_go [3] [3] [] [] hX hS hlq rfl rfl trivial ?_
    refine d_end (by kernel_rfl) ?_
    refine qbn ?_
    have hq := Option.some.inj hf
    subst hq
    refine s_fall0 rfl ?_
    have hkk3 := ((hk141.trans hk146).trans hk152).trans hk157
    replace hle := hle.trans hkk3
    exact ⟨K156, _, hle, ⟨a159, c160, a162, c163, C166, C167, rfl, h161, h164, rfl⟩, Sat.shut3 (hS.sel [0, 1, 2, 4] rfl)⟩
  replace hf := bif_f hc hf
  refine s_seq (s_reg ?_)
  iterate 2 refine s_v rfl rfl rfl ?_
  refine s_nil (qn ?_)
  refine s_if rfl (fun hc => ?_) (fun hc => ?_)
  · replace hf := bif_t hc hf
    refine d_start [3] [] hS ?_
    intro w hS
    refine d_v 0 (fun _ _ _ _ _ h => h) [3] hS rfl rfl rfl (by kernel_rfl) rfl rfl ?_
    refine d_ld (v := (.agg (vv77 x17).toArray)) 1 0 (fun _ _ _ _ _ h => h) [3] hS rfl rfl rfl rfl rfl (by kernel_rfl) rfl rfl ?_
    refine d_op 2 rfl (by kernel_rfl) (by kernel_rfl) (fun X hX => ?_)
    have hlq := KM.le.refl K24
    obtain ⟨x202, hx203, hf⟩ := bs hf
    refine s_call isf49 hS.nilG (bonsaiseat_of_spec hx203) rfl rfl rfl ?_
    rintro _ K204 C206 w hk205 rfl hS
    replace hS := hS.drop1
    replace hlq := hlq.trans hk205
    refine d_go [3] [3] [] [] hX hS hlq rfl rfl trivial ?_
    refine d_op 3 rfl (by kernel_rfl) (by kernel_rfl) (fun X hX => ?_)
    have hlq := KM.le.refl K204
    obtain ⟨x207, hx208, hf⟩ := bs hf
    refine s_call isf51 hS.nilG (bonsaiseat_at_spec hx208) rfl rfl rfl ?_
    rintro _ K209 C211 w hk210 rfl hS
    replace hS := hS.drop1
    replace hlq := hlq.trans hk210
    refine d_go [3] [3] [] [] hX hS hlq rfl rfl trivial ?_
    refine d_op 4 rfl (by kernel_rfl) (by kernel_rfl) (fun X hX => ?_)
    have hlq := KM.le.refl K209
    refine s_bwc (cs := ((vv77 x17) ++ ((vv77 x202) ++ ((vv77 x207) ++ [])))) hS rfl rfl rfl rfl rfl rfl rfl rfl rfl rfl ?_
    intro b212 w hS
    refine d_go [4] [4] [] [] hX hS hlq rfl rfl trivial ?_
    refine d_op 5 rfl (by kernel_rfl) (by kernel_rfl) (fun X hX => ?_)
    have hlq := KM.le.refl K209
    have h214 : OwnS 77 K209 (.slice (some ⟨b212, 0, none⟩) 3 3) [x17, x202, x207] [(b212, Cl ((vv77 x17) ++ ((vv77 x202) ++ ((vv77 x207) ++ []))) 77)] := OwnS.lit ⟨(vv77 x17), _, rfl, rfl, ⟨(vv77 x202), _, rfl, rfl, ⟨(vv77 x207), _, rfl, rfl, rfl⟩⟩⟩ rfl rfl
    obtain ⟨K215, hk216, h217, hS⟩ := h214.freeze (hS.sel [0, 1, 2, 3, 4, 5] rfl)
    replace hS : Sat w _ (flat [_, _, _, _, _]) := hS
    obtain ⟨x218, hx219, hf⟩ := bs hf
    replace h25 := h25.mono ((hk205.trans hk210).trans hk216)
    replace h30 := h30.mono ((hk205.trans hk210).trans hk216)
    refine s_call isf58 (Sat.shut3 hS) (bonsaiseat_builder_add_spec hx219 h25 h30 h217) rfl rfl rfl ?_
    rintro _ K220 _ w hk221 ⟨a223, c224, a226, c227, C230, C231, rfl, h225, h228, rfl⟩ hS
    replace hS := hS.open3
    replace hlq := hlq.trans (hk216.trans hk221)
    refine d_go [3] [3] [] [] hX hS hlq rfl rfl trivial ?_
    refine d_end (by kernel_rfl) ?_
    refine qbn ?_
    have hq := Option.some.inj hf
    subst hq
    refine s_fall0 rfl ?_
    have hkk4 := ((hk205.trans hk210).trans hk216).trans hk221
    replace hle := hle.trans hkk4
    exact ⟨K220, _, hle, ⟨a223, c224, a226, c227, C230, C231, rfl, h225, h228, rfl⟩, Sat.shut3 (hS.sel [0, 1, 2, 4] rfl)⟩
  replace hf := bif_f hc hf
  refine s_seq (s_reg ?_)
  iterate 2 refine s_v rfl rfl rfl ?_
  refine s_nil (qn ?_)
  refine s_if rfl (fun hc => ?_) (fun hc => ?_)
  · replace hf := bif_t hc hf
    refine s_seq (s_reg ?_)
    refine s_v rfl rfl rfl ?_
    obtain ⟨x234, hx235, hf⟩ := bs hf
    refine s_call isf51 hS.nilG (bonsaiseat_at_spec hx235) rfl rfl rfl ?_
    rintro _ K236 C238 w hk237 rfl hS
    replace hS := hS.drop1
    obtain ⟨x239, hx240, hf⟩ := bs hf
    refine s_call isf65 hS.nilG (bonsaiseat_call_spec hx240) rfl rfl rfl ?_
    rintro _ K241 C243 w hk242 rfl hS
    replace hS := hS.drop1
    obtain ⟨x244, hx245, hf⟩ := bs hf
    refine s_call isf51 hS.nilG (bonsaiseat_at_spec hx245) rfl rfl rfl ?_
    rintro _ K246 C248 w hk247 rfl hS
    replace hS := hS.drop1
    refine s_bwc (cs := ((vv77 x234) ++ ((vv77 x239) ++ ((vv77 x244) ++ [])))) hS rfl rfl rfl rfl rfl rfl rfl rfl rfl rfl ?_
    intro b249 w hS
    have h251 : OwnS 77 K246 (.slice (some ⟨b249, 0, none⟩) 3 3) [x234, x239, x244] [(b249, Cl ((vv77 x234) ++ ((vv77 x239) ++ ((vv77 x244) ++ []))) 77)] := OwnS.lit ⟨(vv77 x234), _, rfl, rfl, ⟨(vv77 x239), _, rfl, rfl, ⟨(vv77 x244), _, rfl, rfl, rfl⟩⟩⟩ rfl rfl
    obtain ⟨K252, hk253, h254, hS⟩ := h251.freeze (hS.sel [0, 1, 2, 3, 4, 5] rfl)
    replace hS : Sat w _ (flat [_, _, _, _, _]) := hS
    obtain ⟨x255, hx256, hf⟩ := bs hf
    have hkk5 := ((hk237.trans hk242).trans hk247).trans hk253
    replace h25 := h25.mono hkk5
    replace h30 := h30.mono hkk5
    refine s_call isf58 (Sat.shut3 hS) (bonsaiseat_builder_add_spec hx256 h25 h30 h254) rfl rfl rfl ?_
    rintro _ K257 _ w hk258 ⟨a260, c261, a263, c264, C267, C268, rfl, h262, h265, rfl⟩ hS
    replace hS := hS.open3
    refine s_nil (qn ?_)
    replace hS : Sat w K257 (flat [_, _, _, _]) := (hS.sel [0, 1, 2, 4] rfl)
    refine s_reg ?_
    iterate 2 refine s_v rfl rfl rfl ?_
    obtain ⟨x271, hx272, hf⟩ := bs hf
    refine s_call isf68 (Sat.shut3 hS) (bonsaiseat_builder_try_spec hx272 h262 h265) rfl rfl rfl ?_
    rintro _ K273 _ w hk274 ⟨a276, c277, a279, c280, C283, C284, rfl, h278, h281, rfl⟩ hS
    replace hS := hS.open3
    refine s_nil (qbn ?_)
    have hq := Option.some.inj hf
    subst hq
    refine s_fall0 rfl ?_
    have hkk6 := (hkk5.trans hk258).trans hk274
    replace hle := hle.trans hkk6
    exact ⟨K273, _, hle, ⟨a276, c277, a279, c280, C283, C284, rfl, h278, h281, rfl⟩, Sat.shut3 hS⟩
  replace hf := bif_f hc hf
  refine s_seq (s_reg ?_)
  iterate 2 refine s_v rfl rfl rfl ?_
  refine s_nil (qn ?_)
  refine s_if rfl (fun hc => ?_) (fun hc => ?_)
  · replace hf := bif_t hc hf
    refine d_start [3] [] hS ?_
    intro w hS
    refine d_v 0 (fun _ _ _ _ _ h => h) [3] hS rfl rfl rfl (by kernel_rfl) rfl rfl ?_
    refine d_ld (v := (.agg (vv77 x17).toArray)) 1 0 (fun _ _ _ _ _ h => h) [3] hS rfl rfl rfl rfl rfl (by kernel_rfl) rfl rfl ?_
    refine d_op 2 rfl (by kernel_rfl) (by kernel_rfl) (fun X hX => ?_)
    have hlq := KM.le.refl K24
    obtain ⟨x319, hx320, hf⟩ := bs hf
    refine s_call isf65 hS.nilG (bonsaiseat_call_spec hx320) rfl rfl rfl ?_
    rintro _ K321 C323 w hk322 rfl hS
    replace hS := hS.drop1
    replace hlq := hlq.trans hk322
    refine d_go [3] [3] [] [] hX hS hlq rfl rfl trivial ?_
    refine d_op 3 rfl (by kernel_rfl) (by kernel_rfl) (fun X hX => ?_)
    have hlq := KM.le.refl K321
    obtain ⟨x324, hx325, hf⟩ := bs hf
    refine s_call isf50 hS.nilG (bonsaiseat_one_spec hx325) rfl rfl rfl ?_
    rintro _ K326 C328 w hk327 rfl hS
    replace hS := hS.drop1
    replace hlq := hlq.trans hk327
    refine d_go [3] [3] [] [] hX hS hlq rfl rfl trivial ?_
    refine d_op 4 rfl (by kernel_rfl) (by kernel_rfl) (fun X hX => ?_)
    have hlq := KM.le.refl K326
    refine s_bwc (cs := ((vv77 x17) ++ ((vv77 x319) ++ ((vv77 x324) ++ [])))) hS rfl rfl rfl rfl rfl rfl rfl rfl rfl rfl ?_
    intro b329 w hS
    refine d_go [4] [4] [] [] hX hS hlq rfl rfl trivial ?_
    refine d_op 5 rfl (by kernel_rfl) (by kernel_rfl) (fun X hX => ?_)
    have hlq := KM.le.refl K326
    have h331 : OwnS 77 K326 (.slice (some ⟨b329, 0, none⟩) 3 3) [x17, x319, x324] [(b329, Cl ((vv77 x17) ++ ((vv77 x319) ++ ((vv77 x324) ++ []))) 77)] := OwnS.lit ⟨(vv77 x17), _, rfl, rfl, ⟨(vv77 x319), _, rfl, rfl, ⟨(vv77 x324), _, rfl, rfl, rfl⟩⟩⟩ rfl rfl
    obtain ⟨K332, hk333, h334, hS⟩ := h331.freeze (hS.sel [0, 1, 2, 3, 4, 5] rfl)
    replace hS : Sat w _ (flat [_, _, _, _, _]) := hS
    obtain ⟨x335, hx336, hf⟩ := bs hf
    replace h25 := h25.mono ((hk322.trans hk327).trans hk333)
    replace h30 := h30.mono ((hk322.trans hk327).trans hk333)
    refine s_call isf58 (Sat.shut3 hS) (bonsaiseat_builder_add_spec hx336 h25 h30 h334) rfl rfl rfl ?_
    rintro _ K337 _ w hk338 ⟨a340, c341, a343, c344, C347, C348, rfl, h342, h345, rfl⟩ hS
    replace hS := hS.open3
    replace hlq := hlq.trans (hk333.trans hk338)
    refine d_go [3] [3] [] [] hX hS hlq rfl rfl trivial ?_
    refine d_end (by kernel_rfl) ?_
    refine qbn ?_
    have hq := Option.some.inj hf
    subst hq
    refine s_fall0 rfl ?_
    have hkk7 := ((hk322.trans hk327).trans hk333).trans hk338
    replace hle := hle.trans hkk7
    exact ⟨K337, _, hle, ⟨a340, c341, a343, c344, C347, C348, rfl, h342, h345, rfl⟩, Sat.shut3 (hS.sel [0, 1, 2, 4] rfl)⟩
  replace hf := bif_f hc hf
  refine s_seq (s_reg ?_)
  iterate 2 refine s_v rfl rfl rfl ?_
  refine s_nil (qn ?_)
  refine s_if rfl (fun hc => ?_) (fun hc => ?_)
  · replace hf := bif_t hc hf
    refine d_start [3] [] hS ?_
    intro w hS
    refine d_v 0 (fun _ _ _ _ _ h => h) [3] hS rfl rfl rfl (by kernel_rfl) rfl rfl ?_
    refine d_ld (v := (.agg (vv77 x17).toArray)) 1 0 (fun _ _ _ _ _ h => h) [3] hS rfl rfl rfl rfl rfl (by kernel_rfl) rfl rfl ?_
    refine d_op 2 rfl (by kernel_rfl) (by kernel_rfl) (fun X hX => ?_)
    have hlq := KM.le.refl K24
    obtain ⟨x383, hx384, hf⟩ := bs hf
    refine s_call isf51 hS.nilG (bonsaiseat_at_spec hx384) rfl rfl rfl ?_
    rintro _ K385 C387 w hk386 rfl hS
    replace hS := hS.drop1
    replace hlq := hlq.trans hk386
    refine d_go [3] [3] [] [] hX hS hlq rfl rfl trivial ?_
    refine d_op 3 rfl (by kernel_rfl) (by kernel_rfl) (fun X hX => ?_)
    have hlq := KM.le.refl K385
    obtain ⟨x388, hx389, hf⟩ := bs hf
    refine s_call isf66 hS.nilG (bonsaiseat_part_spec hx389) rfl rfl rfl ?_
    rintro _ K390 C392 w hk391 rfl hS
    replace hS := hS.drop1
    replace hlq := hlq.trans hk391
    refine d_go [3] [3] [] [] hX hS hlq rfl rfl trivial ?_
    refine d_op 4 rfl (by kernel_rfl) (by kernel_rfl) (fun X hX => ?_)
    have hlq := KM.le.refl K390
    refine s_bwc (cs := ((vv77 x17) ++ ((vv77 x383) ++ ((vv77 x388) ++ [])))) hS rfl rfl rfl rfl rfl rfl rfl rfl rfl rfl ?_
    intro b393 w hS
    refine d_go [4] [4] [] [] hX hS hlq rfl rfl trivial ?_
    refine d_op 5 rfl (by kernel_rfl) (by kernel_rfl) (fun X hX => ?_)
    have hlq := KM.le.refl K390
    have h395 : OwnS 77 K390 (.slice (some ⟨b393, 0, none⟩) 3 3) [x17, x383, x388] [(b393, Cl ((vv77 x17) ++ ((vv77 x383) ++ ((vv77 x388) ++ []))) 77)] := OwnS.lit ⟨(vv77 x17), _, rfl, rfl, ⟨(vv77 x383), _, rfl, rfl, ⟨(vv77 x388), _, rfl, rfl, rfl⟩⟩⟩ rfl rfl
    obtain ⟨K396, hk397, h398, hS⟩ := h395.freeze (hS.sel [0, 1, 2, 3, 4, 5] rfl)
    replace hS : Sat w _ (flat [_, _, _, _, _]) := hS
    obtain ⟨x399, hx400, hf⟩ := bs hf
    replace h25 := h25.mono ((hk386.trans hk391).trans hk397)
    replace h30 := h30.mono ((hk386.trans hk391).trans hk397)
    refine s_call isf58 (Sat.shut3 hS) (bonsaiseat_builder_add_spec hx400 h25 h30 h398) rfl rfl rfl ?_
    rintro _ K401 _ w hk402 ⟨a404, c405, a407, c408, C411, C412, rfl, h406, h409, rfl⟩ hS
    replace hS := hS.open3
    replace hlq := hlq.trans (hk397.trans hk402)
    refine d_go [3] [3] [] [] hX hS hlq rfl rfl trivial ?_
    refine d_end (by kernel_rfl) ?_
    refine qbn ?_
    have hq := Option.some.inj hf
    subst hq
    refine s_fall0 rfl ?_
    have hkk8 := ((hk386.trans hk391).trans hk397).trans hk402
    replace hle := hle.trans hkk8
    exact ⟨K401, _, hle, ⟨a404, c405, a407, c408, C411, C412, rfl, h406, h409, rfl⟩, Sat.shut3 (hS.sel [0, 1, 2, 4] rfl)⟩
  replace hf := bif_f hc hf
  refine s_seq (s_reg ?_)
  iterate 2 refine s_v rfl rfl rfl ?_
  refine s_nil (qn ?_)
  refine s_if rfl (fun hc => ?_) (fun hc => ?_)
  · replace hf := bif_t hc hf
    refine d_start [3] [] hS ?_
    intro w hS
    refine d_v 0 (fun _ _ _ _ _ h => h) [3] hS rfl rfl rfl (by kernel_rfl) rfl rfl ?_
    refine d_ld (v := (.agg (vv77 x17).toArray)) 1 0 (fun _ _ _ _ _ h => h) [3] hS rfl rfl rfl rfl rfl (by kernel_rfl) rfl rfl ?_
    refine d_op 2 rfl (by kernel_rfl) (by kernel_rfl) (fun X hX => ?_)
    have hlq := KM.le.refl K24
    obtain ⟨x447, hx448, hf⟩ := bs hf
    refine s_call isf66 hS.nilG (bonsaiseat_part_spec hx448) rfl rfl rfl ?_
    rintro _ K449 C451 w hk450 rfl hS
    replace hS := hS.drop1
    replace hlq := hlq.trans hk450
    refine d_go [3] [3] [] [] hX hS hlq rfl rfl trivial ?_
    refine d_op 3 rfl (by kernel_rfl) (by kernel_rfl) (fun X hX => ?_)
    have hlq := KM.le.refl K449
    obtain ⟨x452, hx453, hf⟩ := bs hf
    refine s_call isf51 hS.nilG (bonsaiseat_at_spec hx453) rfl rfl rfl ?_
    rintro _ K454 C456 w hk455 rfl hS
    replace hS := hS.drop1
    replace hlq := hlq.trans hk455
    refine d_go [3] [3] [] [] hX hS hlq rfl rfl trivial ?_
    refine d_op 4 rfl (by kernel_rfl) (by kernel_rfl) (fun X hX => ?_)
    have hlq := KM.le.refl K454
    refine s_bwc (cs := ((vv77 x17) ++ ((vv77 x447) ++ ((vv77 x452) ++ [])))) hS rfl rfl rfl rfl rfl rfl rfl rfl rfl rfl ?_
    intro b457 w hS
    refine d_go [4] [4] [] [] hX hS hlq rfl rfl trivial ?_
    refine d_op 5 rfl (by kernel_rfl) (by kernel_rfl) (fun X hX => ?_)
    have hlq := KM.le.refl K454
    have h459 : OwnS 77 K454 (.slice (some ⟨b457, 0, none⟩) 3 3) [x17, x447, x452] [(b457, Cl ((vv77 x17) ++ ((vv77 x447) ++ ((vv77 x452) ++ []))) 77)] := OwnS.lit ⟨(vv77 x17), _, rfl, rfl, ⟨(vv77 x447), _, rfl, rfl, ⟨(vv77 x452), _, rfl, rfl, rfl⟩⟩⟩ rfl rfl
    obtain ⟨K460, hk461, h462, hS⟩ := h459.freeze (hS.sel [0, 1, 2, 3, 4, 5] rfl)
    replace hS : Sat w _ (flat [_, _, _, _, _]) := hS
    obtain ⟨x463, hx464, hf⟩ := bs hf
    replace h25 := h25.mono ((hk450.trans hk455).trans hk461)
    replace h30 := h30.mono ((hk450.trans hk455).trans hk461)
    refine s_call isf58 (Sat.shut3 hS) (bonsaiseat_builder_add_spec hx464 h25 h30 h462) rfl rfl rfl ?_
    rintro _ K465 _ w hk466 ⟨a468, c469, a471, c472, C475, C476, rfl, h470, h473, rfl⟩ hS
    replace hS := hS.open3
    replace hlq := hlq.trans (hk461.trans hk466)
    refine d_go [3] [3] [] [] hX hS hlq rfl rfl trivial ?_
    refine d_end (by kernel_rfl) ?_
    refine qbn ?_
    have hq := Option.some.inj hf
    subst hq
    refine s_fall0 rfl ?_
    have hkk9 := ((hk450.trans hk455).trans hk461).trans hk466
    replace hle := hle.trans hkk9
    exact ⟨K465, _, hle, ⟨a468, c469, a471, c472, C475, C476, rfl, h470, h473, rfl⟩, Sat.shut3 (hS.sel [0, 1, 2, 4] rfl)⟩
  replace hf := bif_f hc hf
  refine s_seq (s_reg ?_)
  iterate 2 refine s_v rfl rfl rfl ?_
  refine s_nil (qn ?_)
  refine s_if rfl (fun hc => ?_) (fun hc => ?_)
  · replace hf := bif_t hc hf
    refine d_start [3] [] hS ?_
    intro w hS
    refine d_v 0 (fun _ _ _ _ _ h => h) [3] hS rfl rfl rfl (by kernel_rfl) rfl rfl ?_
    refine d_ld (v := (.agg (vv77 x17).toArray)) 1 0 (fun _ _ _ _ _ h => h) [3] hS rfl rfl rfl rfl rfl (by kernel_rfl) rfl rfl ?_
    refine d_v 2 (fun _ _ _ _ _ h => h) [3] hS rfl rfl rfl (by kernel_rfl) rfl rfl ?_
    refine d_v 3 (fun _ _ _ _ _ h => h) [3] hS rfl rfl rfl (by kernel_rfl) rfl rfl ?_
    refine d_op 4 rfl (by kernel_rfl) (by kernel_rfl) (fun X hX => ?_)
    have hlq := KM.le.refl K24
    obtain ⟨x511, hx512, hf⟩ := bs hf
    refine s_call isf59 hS.nilG (bonsaiseat_num_spec hx512) rfl rfl rfl ?_
    rintro _ K513 C515 w hk514 rfl hS
    replace hS := hS.drop1
    replace hlq := hlq.trans hk514
    refine d_go [3] [3] [] [] hX hS hlq rfl rfl trivial ?_
    refine d_op 5 rfl (by kernel_rfl) (by kernel_rfl) (fun X hX => ?_)
    have hlq := KM.le.refl K513
    obtain ⟨x516, hx517, hf⟩ := bs hf
    refine s_call isf66 hS.nilG (bonsaiseat_part_spec hx517) rfl rfl rfl ?_
    rintro _ K518 C520 w hk519 rfl hS
    replace hS := hS.drop1
    replace hlq := hlq.trans hk519
    refine d_go [3] [3] [] [] hX hS hlq rfl rfl trivial ?_
    refine d_op 6 rfl (by kernel_rfl) (by kernel_rfl) (fun X hX => ?_)
    have hlq := KM.le.refl K518
    refine s_bwc (cs := ((vv77 x17) ++ ((vv77 x511) ++ ((vv77 x516) ++ [])))) hS rfl rfl rfl rfl rfl rfl rfl rfl rfl rfl ?_
    intro b521 w hS
    refine d_go [4] [4] [] [] hX hS hlq rfl rfl trivial ?_
    refine d_op 7 rfl (by kernel_rfl) (by kernel_rfl) (fun X hX => ?_)
    have hlq := KM.le.refl K518
    have h523 : OwnS 77 K518 (.slice (some ⟨b521, 0, none⟩) 3 3) [x17, x511, x516] [(b521, Cl ((vv77 x17) ++ ((vv77 x511) ++ ((vv77 x516) ++ []))) 77)] := OwnS.lit ⟨(vv77 x17), _, rfl, rfl, ⟨(vv77 x511), _, rfl, rfl, ⟨(vv77 x516), _, rfl, rfl, rfl⟩⟩⟩ rfl rfl
    obtain ⟨K524, hk525, h526, hS⟩ := h523.freeze (hS.sel [0, 1, 2, 3, 4, 5] rfl)
    replace hS : Sat w _ (flat [_, _, _, _, _]) := hS
    obtain ⟨x527, hx528, hf⟩ := bs hf
    replace h25 := h25.mono ((hk514.trans hk519).trans hk525)
    replace h30 := h30.mono ((hk514.trans hk519).trans hk525)
    refine s_call isf58 (Sat.shut3 hS) (bonsaiseat_builder_add_spec hx528 h25 h30 h526) rfl rfl rfl ?_
    rintro _ K529 _ w hk530 ⟨a532, c533, a535, c536, C539, C540, rfl, h534, h537, rfl⟩ hS
    replace hS := hS.open3
    replace hlq := hlq.trans (hk525.trans hk530)
    refine d_go [3] [3] [] [] hX hS hlq rfl rfl trivial ?_
    refine d_end (by kernel_rfl) ?_
    refine qbn ?_
    have hq := Option.some.inj hf
    subst hq
    refine s_fall0 rfl ?_
    have hkk10 := ((hk514.trans hk519).trans hk525).trans hk530
    replace hle := hle.trans hkk10
    exact ⟨K529, _, hle, ⟨a532, c533, a535, c536, C539, C540, rfl, h534, h537, rfl⟩, Sat.shut3 (hS.sel [0, 1, 2, 4] rfl)⟩
  replace hf := bif_f hc hf
  refine s_seq (s_reg ?_)
  iterate 2 refine s_v rfl rfl rfl ?_
  refine s_nil (qn ?_)
  refine s_if rfl (fun hc => ?_) (fun hc => ?_)
  · replace hf := bif_t hc hf
    refine s_reg ?_
    refine s_v rfl rfl rfl ?_
    obtain ⟨x543, hx544, hf⟩ := bs hf
    refine s_call isf66 hS.nilG (bonsaiseat_part_spec hx544) rfl rfl rfl ?_
    rintro _ K545 C547 w hk546 rfl hS
    replace hS := hS.drop1
    obtain ⟨x548, hx549, hf⟩ := bs hf
    refine s_call isf59 hS.nilG (bonsaiseat_num_spec hx549) rfl rfl rfl ?_
    rintro _ K550 C552 w hk551 rfl hS
    replace hS := hS.drop1
    obtain ⟨x553, hx554, hf⟩ := bs hf
    refine s_call isf50 hS.nilG (bonsaiseat_one_spec hx554) rfl rfl rfl ?_
    rintro _ K555 C557 w hk556 rfl hS
    replace hS := hS.drop1
    obtain ⟨x558, hx559, hf⟩ := bs hf
    refine s_call isf66 hS.nilG (bonsaiseat_part_spec hx559) rfl rfl rfl ?_
    rintro _ K560 C562 w hk561 rfl hS
    replace hS := hS.drop1
    refine s_bwc (cs := ((vv77 x543) ++ ((vv77 x548) ++ ((vv77 x553) ++ ((vv77 x558) ++ []))))) hS rfl rfl rfl rfl rfl rfl rfl rfl rfl rfl ?_
    intro b563 w hS
    have h565 : OwnS 77 K560 (.slice (some ⟨b563, 0, none⟩) 4 4) [x543, x548, x553, x558] [(b563, Cl ((vv77 x543) ++ ((vv77 x548) ++ ((vv77 x553) ++ ((vv77 x558) ++ [])))) 77)] := OwnS.lit ⟨(vv77 x543), _, rfl, rfl, ⟨(vv77 x548), _, rfl, rfl, ⟨(vv77 x553), _, rfl, rfl, ⟨(vv77 x558), _, rfl, rfl, rfl⟩⟩⟩⟩ rfl rfl
    obtain ⟨K566, hk567, h568, hS⟩ := h565.freeze (hS.sel [0, 1, 2, 3, 4, 5] rfl)
    replace hS : Sat w _ (flat [_, _, _, _, _]) := hS
    obtain ⟨x569, hx570, hf⟩ := bs hf
    have hkk11 := (((hk546.trans hk551).trans hk556).trans hk561).trans hk567
    replace h25 := h25.mono hkk11
    replace h30 := h30.mono hkk11
    refine s_call isf58 (Sat.shut3 hS) (bonsaiseat_builder_add_spec hx570 h25 h30 h568) rfl rfl rfl ?_
    rintro _ K571 _ w hk572 ⟨a574, c575, a577, c578, C581, C582, rfl, h576, h579, rfl⟩ hS
    replace hS := hS.open3
    refine s_nil (qbn ?_)
    have hq := Option.some.inj hf
    subst hq
    refine s_fall0 rfl ?_
    have hkk12 := hkk11.trans hk572
    replace hle := hle.trans hkk12
    exact ⟨K571, _, hle, ⟨a574, c575, a577, c578, C581, C582, rfl, h576, h579, rfl⟩, Sat.shut3 (hS.sel [0, 1, 2, 4] rfl)⟩
  replace hf := bif_f hc hf
  refine s_seq (s_reg ?_)
  iterate 2 refine s_v rfl rfl rfl ?_
  refine s_nil (qn ?_)
  refine s_if rfl (fun hc => ?_) (fun hc => ?_)
  · replace hf := bif_t hc hf
    obtain ⟨s882, hst883, hf⟩ := bs hf
    refine s_cut1 (fun τ w => ∃ (K871 : KM) (a873 : Option Addr) (c874 : Nat) (C875 : Chunks) (a878 : Option Addr) (c879 : Nat) (C880 : Chunks), τ = [(0, (.pointer (some ⟨b2, 0, none⟩)))] ∧ KM.le K K871 ∧ OwnS 77 K871 (.slice a873 s882.1.length c874) s882.1 C875 ∧ OwnS 92 K871 (.slice a878 s882.2.length c879) s882.2 C880 ∧ Sat w K871 (flat [[(b2, Cl [(.slice a873 s882.1.length c874), (.slice a878 s882.2.length c879)] 127)], C875, C880, L])) (fun J hJ => ?_) ?_
    · replace hf := hst883
      refine d_start [] [] hS ?_
      intro w hS
      refine d_v 0 (fun _ _ _ _ _ h => h) [] hS rfl rfl rfl (by kernel_rfl) rfl rfl ?_
      refine d_v 3 (fun _ _ _ _ _ h => h) [] hS rfl rfl rfl (by kernel_rfl) rfl rfl ?_
      refine d_v 4 (fun _ _ _ _ _ h => h) [] hS rfl rfl rfl (by kernel_rfl) rfl rfl ?_
      refine d_ops [1, 2] (by kernel_rfl) rfl (.cons ⟨rfl, (by kernel_rfl), fun X hX => ?_⟩ (.cons ⟨rfl, (by kernel_rfl), fun X hX => ?_⟩ AllB.nil))
      · have hlq := KM.le.refl K24
        obtain ⟨x982, hx983, hf⟩ := bs hf
        refine s_call isf51 hS.nilG (bonsaiseat_at_spec hx983) rfl rfl rfl ?_
        rintro _ K984 C986 w hk985 rfl hS
        replace hS := hS.drop1
        replace hlq := hlq.trans hk985
        refine d_go [] [] [] [] hX hS hlq rfl rfl trivial ?_
        refine d_op 2 rfl (by kernel_rfl) (by kernel_rfl) (fun X hX => ?_)
        have hlq := KM.le.refl K984
        refine s_bwc (cs := [(.string (⟨#[85, 116, 105, 108]⟩ : ByteArray)), (.string (⟨#[68]⟩ : ByteArray))]) hS rfl rfl rfl rfl rfl rfl rfl rfl rfl rfl ?_
        intro b987 w hS
        refine d_go [] [0] [] [] hX hS hlq rfl rfl trivial ?_
        have h989 : OwnS 9 K984 (.slice (some ⟨b987, 0, none⟩) 2 2) ([(⟨#[85, 116, 105, 108]⟩ : ByteArray), (⟨#[68]⟩ : ByteArray)] : List ByteArray) [(b987, Cl [(.string (⟨#[85, 116, 105, 108]⟩ : ByteArray)), (.string (⟨#[68]⟩ : ByteArray))] 9)] := OwnS.lit ⟨[(.string (⟨#[85, 116, 105, 108]⟩ : ByteArray))], _, rfl, rfl, ⟨[(.string (⟨#[68]⟩ : ByteArray))], _, rfl, rfl, rfl⟩⟩ rfl rfl
        generalize hCg_ : ([(b987, Cl [(.string (⟨#[85, 116, 105, 108]⟩ : ByteArray)), (.string (⟨#[68]⟩ : ByteArray))] 9)] : Chunks) = C990 at hS h989 ⊢
        clear hCg_
        obtain ⟨x991, hx992, hf⟩ := bs hf
        refine d_ixo 5 0 (fun _ _ _ _ _ h => h) [0] hS rfl h989 hx992 rfl rfl rfl rfl rfl rfl rfl (by kernel_rfl) rfl rfl ?_
        intro b993 l994 cs997 l995 hcs_ hC998 hun996
        obtain rfl := hcs_
        subst hC998
        have hq999 := KM.le.refl K984
        refine d_ldm 6 0 0 (fun _ _ _ _ _ h => h) [0] hS rfl rfl rfl rfl rfl (by kernel_rfl) rfl rfl ?_
        refine d_op 7 rfl (by kernel_rfl) (by kernel_rfl) (fun X hX => ?_)
        have hlq := KM.le.refl K984
        obtain ⟨x1000, hx1001, hf⟩ := bs hf
        refine s_call isf66 hS.nilG (bonsaiseat_part_spec hx1001) rfl rfl rfl ?_
        rintro _ K1002 C1004 w hk1003 rfl hS
        replace hS := hS.drop1
        replace hlq := hlq.trans hk1003
        refine d_go [0] [0] [] [] hX hS hlq rfl rfl trivial ?_
        refine d_op 8 rfl (by kernel_rfl) (by kernel_rfl) (fun X hX => ?_)
        have hlq := KM.le.refl K1002
        refine s_bwc (cs := ((vv77 x982) ++ ((vv77 x1000) ++ []))) hS rfl rfl rfl rfl rfl rfl rfl rfl rfl rfl ?_
        intro b1005 w hS
        refine d_go [1] [1] [] [] hX hS hlq rfl rfl trivial ?_
        refine d_op 9 rfl (by kernel_rfl) (by kernel_rfl) (fun X hX => ?_)
        have hlq := KM.le.refl K1002
        have h1007 : OwnS 77 K1002 (.slice (some ⟨b1005, 0, none⟩) 2 2) [x982, x1000] [(b1005, Cl ((vv77 x982) ++ ((vv77 x1000) ++ [])) 77)] := OwnS.lit ⟨(vv77 x982), _, rfl, rfl, ⟨(vv77 x1000), _, rfl, rfl, rfl⟩⟩ rfl rfl
        obtain ⟨K1008, hk1009, h1010, hS⟩ := h1007.freeze (hS.sel [0, 1, 2, 3, 4, 5, 6] rfl)
        replace hS : Sat w _ (flat [_, _, _, _, _, _]) := hS
        obtain ⟨x1011, hx1012, hf⟩ := bs hf
        replace h25 := h25.mono ((hk985.trans hk1003).trans hk1009)
        replace h30 := h30.mono ((hk985.trans hk1003).trans hk1009)
        refine s_call isf58 (Sat.shut3 (hS.sel [1, 2, 3, 0, 4, 5] rfl)) (bonsaiseat_builder_add_spec hx1012 h25 h30 h1010) rfl rfl rfl ?_
        rintro _ K1013 _ w hk1014 ⟨a1016, c1017, a1019, c1020, C1023, C1024, rfl, h1018, h1021, rfl⟩ hS
        replace hS := hS.open3
        replace hlq := hlq.trans (hk1009.trans hk1014)
        refine d_go [3] [3] [] [] hX hS hlq rfl rfl trivial ?_
        refine d_end (by kernel_rfl) ?_
        refine qn ?_
        have hq := Option.some.inj hf
        subst hq
        have hkk13 := ((hk985.trans hk1003).trans hk1009).trans hk1014
        replace hle := hle.trans hkk13
        refine s_join hJ _ ⟨K1013, a1016, c1017, C1023, a1019, c1020, C1024, rfl, hle, h1018, h1021, (hS.sel [0, 1, 2, 5] rfl)⟩ ⟨rfl, trivial⟩
      obtain ⟨x982, hx983, hf⟩ := bs hf
      obtain ⟨x991, hx992, hf⟩ := bs hf
      obtain ⟨x1000, hx1001, hf⟩ := bs hf
      obtain ⟨x1011, hx1012, hf⟩ := bs hf
      replace hf : ((idx ([(⟨#[85, 116, 105, 108]⟩ : ByteArray), (⟨#[68]⟩ : ByteArray)] : List ByteArray) (Int.tmod p15 2)).bind fun x1031 => (bonsaiseat_at.fn 4 0).bind fun x1040 => (bonsaiseat_part.fn 29 x1031 (⟨#[119, 97, 115, 116, 101]⟩ : ByteArray)).bind fun x1045 => (bonsaiseat_builder_add.fn p1 [x1040, x1045]).bind fun x1056 => some (x1056.l_, x1056.h_)) = _ := Eq.trans (by simp only [hx983, hx992, hx1001, hx1012, guardB, cond_true, Option.bind_some]) hf
      have hlq := KM.le.refl K24
      refine s_bwc (cs := [(.string (⟨#[85, 116, 105, 108]⟩ : ByteArray)), (.string (⟨#[68]⟩ : ByteArray))]) hS rfl rfl rfl rfl rfl rfl rfl rfl rfl rfl ?_
      intro b1027 w hS
      refine d_go [] [0] [] [] hX hS hlq rfl rfl trivial ?_
      have h1029 : OwnS 9 K24 (.slice (some ⟨b1027, 0, none⟩) 2 2) ([(⟨#[85, 116, 105, 108]⟩ : ByteArray), (⟨#[68]⟩ : ByteArray)] : List ByteArray) [(b1027, Cl [(.string (⟨#[85, 116, 105, 108]⟩ : ByteArray)), (.string (⟨#[68]⟩ : ByteArray))] 9)] := OwnS.lit ⟨[(.string (⟨#[85, 116, 105, 108]⟩ : ByteArray))], _, rfl, rfl, ⟨[(.string (⟨#[68]⟩ : ByteArray))], _, rfl, rfl, rfl⟩⟩ rfl rfl
      generalize hCg_ : ([(b1027, Cl [(.string (⟨#[85, 116, 105, 108]⟩ : ByteArray)), (.string (⟨#[68]⟩ : ByteArray))] 9)] : Chunks) = C1030 at hS h1029 ⊢
      clear hCg_
      obtain ⟨x1031, hx1032, hf⟩ := bs hf
      refine d_ixo 5 0 (fun _ _ _ _ _ h => h) [0] hS rfl h1029 hx1032 rfl rfl rfl rfl rfl rfl rfl (by kernel_rfl) rfl rfl ?_
      intro b1033 l1034 cs1037 l1035 hcs_ hC1038 hun1036
      obtain rfl := hcs_
      subst hC1038
      have hq1039 := KM.le.refl K24
      refine d_ldm 6 0 0 (fun _ _ _ _ _ h => h) [0] hS rfl rfl rfl rfl rfl (by kernel_rfl) rfl rfl ?_
      refine d_op 1 rfl (by kernel_rfl) (by kernel_rfl) (fun X hX => ?_)
      have hlq := KM.le.refl K24
      obtain ⟨x1040, hx1041, hf⟩ := bs hf
      refine s_call isf51 hS.nilG (bonsaiseat_at_spec hx1041) rfl rfl rfl ?_
      rintro _ K1042 C1044 w hk1043 rfl hS
      replace hS := hS.drop1
      replace hlq := hlq.trans hk1043
      refine d_go [0] [0] [] [] hX hS hlq rfl rfl trivial ?_
      refine d_op 7 rfl (by kernel_rfl) (by kernel_rfl) (fun X hX => ?_)
      have hlq := KM.le.refl K1042
      obtain ⟨x1045, hx1046, hf⟩ := bs hf
      refine s_call isf66 hS.nilG (bonsaiseat_part_spec hx1046) rfl rfl rfl ?_
      rintro _ K1047 C1049 w hk1048 rfl hS
      replace hS := hS.drop1
      replace hlq := hlq.trans hk1048
      refine d_go [0] [0] [] [] hX hS hlq rfl rfl trivial ?_
      refine d_op 8 rfl (by kernel_rfl) (by kernel_rfl) (fun X hX => ?_)
      have hlq := KM.le.refl K1047
      refine s_bwc (cs := ((vv77 x1040) ++ ((vv77 x1045) ++ []))) hS rfl rfl rfl rfl rfl rfl rfl rfl rfl rfl ?_
      intro b1050 w hS
      refine d_go [1] [1] [] [] hX hS hlq rfl rfl trivial ?_
      refine d_op 9 rfl (by kernel_rfl) (by kernel_rfl) (fun X hX => ?_)
      have hlq := KM.le.refl K1047
      have h1052 : OwnS 77 K1047 (.slice (some ⟨b1050, 0, none⟩) 2 2) [x1040, x1045] [(b1050, Cl ((vv77 x1040) ++ ((vv77 x1045) ++ [])) 77)] := OwnS.lit ⟨(vv77 x1040), _, rfl, rfl, ⟨(vv77 x1045), _, rfl, rfl, rfl⟩⟩ rfl rfl
      obtain ⟨K1053, hk1054, h1055, hS⟩ := h1052.freeze (hS.sel [0, 1, 2, 3, 4, 5, 6] rfl)
      replace hS : Sat w _ (flat [_, _, _, _, _, _]) := hS
      obtain ⟨x1056, hx1057, hf⟩ := bs hf
      replace h25 := h25.mono ((hk1043.trans hk1048).trans hk1054)
      replace h30 := h30.mono ((hk1043.trans hk1048).trans hk1054)
      refine s_call isf58 (Sat.shut3 (hS.sel [1, 2, 3, 0, 4, 5] rfl)) (bonsaiseat_builder_add_spec hx1057 h25 h30 h1055) rfl rfl rfl ?_
      rintro _ K1058 _ w hk1059 ⟨a1061, c1062, a1064, c1065, C1068, C1069, rfl, h1063, h1066, rfl⟩ hS
      replace hS := hS.open3
      replace hlq := hlq.trans (hk1054.trans hk1059)
      refine d_go [3] [3] [] [] hX hS hlq rfl rfl trivial ?_
      refine d_end (by kernel_rfl) ?_
      refine qn ?_
      have hq := Option.some.inj hf
      subst hq
      have hkk14 := ((hk1043.trans hk1048).trans hk1054).trans hk1059
      replace hle := hle.trans hkk14
      refine s_join hJ _ ⟨K1058, a1061, c1062, C1068, a1064, c1065, C1069, rfl, hle, h1063, h1066, (hS.sel [0, 1, 2, 5] rfl)⟩ ⟨rfl, trivial⟩
    rintro _ w ⟨K871, a873, c874, C875, a878, c879, C880, rfl, hle, h872, h877, hS⟩
    refine qbn ?_
    have hq := Option.some.inj hf
    subst hq
    refine s_fall0 rfl ?_
    exact ⟨K871, _, hle, ⟨a873, c874, a878, c879, C875, C880, rfl, h872, h877, rfl⟩, Sat.shut3 hS⟩
  replace hf := bif_f hc hf
  refine s_seq (s_reg ?_)
  iterate 2 refine s_v rfl rfl rfl ?_
  refine s_nil (qn ?_)
  refine s_if rfl (fun hc => ?_) (fun hc => ?_)
  · replace hf := bif_t hc hf
    obtain ⟨s1399, hst1400, hf⟩ := bs hf
    refine s_cut1 (fun τ w => ∃ (K1388 : KM) (a1390 : Option Addr) (c1391 : Nat) (C1392 : Chunks) (a1395 : Option Addr) (c1396 : Nat) (C1397 : Chunks), τ = [(0, (.pointer (some ⟨b2, 0, none⟩)))] ∧ KM.le K K1388 ∧ OwnS 77 K1388 (.slice a1390 s1399.1.length c1391) s1399.1 C1392 ∧ OwnS 92 K1388 (.slice a1395 s1399.2.length c1396) s1399.2 C1397 ∧ Sat w K1388 (flat [[(b2, Cl [(.slice a1390 s1399.1.length c1391), (.slice a1395 s1399.2.length c1396)] 127)], C1392, C1397, L])) (fun J hJ => ?_) ?_
    · replace hf := hst1400
      refine d_start [] [] hS ?_
      intro w hS
      refine d_v 0 (fun _ _ _ _ _ h => h) [] hS rfl rfl rfl (by kernel_rfl) rfl rfl ?_
      refine d_v 3 (fun _ _ _ _ _ h => h) [] hS rfl rfl rfl (by kernel_rfl) rfl rfl ?_
      refine d_v 4 (fun _ _ _ _ _ h => h) [] hS rfl rfl rfl (by kernel_rfl) rfl rfl ?_
      refine d_ops [1, 2] (by kernel_rfl) rfl (.cons ⟨rfl, (by kernel_rfl), fun X hX => ?_⟩ (.cons ⟨rfl, (by kernel_rfl), fun X hX => ?_⟩ AllB.nil))
      · have hlq := KM.le.refl K24
        obtain ⟨x1509, hx1510, hf⟩ := bs hf
        refine s_call isf51 hS.nilG (bonsaiseat_at_spec hx1510) rfl rfl rfl ?_
        rintro _ K1511 C1513 w hk1512 rfl hS
        replace hS := hS.drop1
        replace hlq := hlq.trans hk1512
        refine d_go [] [] [] [] hX hS hlq rfl rfl trivial ?_
        refine d_op 2 rfl (by kernel_rfl) (by kernel_rfl) (fun X hX => ?_)
        have hlq := KM.le.refl K1511
        refine s_bwc (cs := [(.string (⟨#[105, 110, 99]⟩ : ByteArray)), (.string (⟨#[116, 119, 105, 99, 101]⟩ : ByteArray)), (.string (⟨#[119, 111, 114, 107]⟩ : ByteArray)), (.string (⟨#[100, 111, 119, 110]⟩ : ByteArray))]) hS rfl rfl rfl rfl rfl rfl rfl rfl rfl rfl ?_
        intro b1514 w hS
        refine d_go [] [0] [] [] hX hS hlq rfl rfl trivial ?_
        have h1516 : OwnS 9 K1511 (.slice (some ⟨b1514, 0, none⟩) 4 4) ([(⟨#[105, 110, 99]⟩ : ByteArray), (⟨#[116, 119, 105, 99, 101]⟩ : ByteArray), (⟨#[119, 111, 114, 107]⟩ : ByteArray), (⟨#[100, 111, 119, 110]⟩ : ByteArray)] : List ByteArray) [(b1514, Cl [(.string (⟨#[105, 110, 99]⟩ : ByteArray)), (.string (⟨#[116, 119, 105, 99, 101]⟩ : ByteArray)), (.string (⟨#[119, 111, 114, 107]⟩ : ByteArray)), (.string (⟨#[100, 111, 119, 110]⟩ : ByteArray))] 9)] := OwnS.lit ⟨[(.string (⟨#[105, 110, 99]⟩ : ByteArray))], _, rfl, rfl, ⟨[(.string (⟨#[116, 119, 105, 99, 101]⟩ : ByteArray))], _, rfl, rfl, ⟨[(.string (⟨#[119, 111, 114, 107]⟩ : ByteArray))], _, rfl, rfl, ⟨[(.string (⟨#[100, 111, 119, 110]⟩ : ByteArray))], _, rfl, rfl, rfl⟩⟩⟩⟩ rfl rfl
        generalize hCg_ : ([(b1514, Cl [(.string (⟨#[105, 110, 99]⟩ : ByteArray)), (.string (⟨#[116, 119, 105, 99, 101]⟩ : ByteArray)), (.string (⟨#[119, 111, 114, 107]⟩ : ByteArray)), (.string (⟨#[100, 111, 119, 110]⟩ : ByteArray))] 9)] : Chunks) = C1517 at hS h1516 ⊢
        clear hCg_
        obtain ⟨x1518, hx1519, hf⟩ := bs hf
        refine d_ixo 5 0 (fun _ _ _ _ _ h => h) [0] hS rfl h1516 hx1519 rfl rfl rfl rfl rfl rfl rfl (by kernel_rfl) rfl rfl ?_
        intro b1520 l1521 cs1524 l1522 hcs_ hC1525 hun1523
        obtain rfl := hcs_
        subst hC1525
        have hq1526 := KM.le.refl K1511
        refine d_ldm 6 0 0 (fun _ _ _ _ _ h => h) [0] hS rfl rfl rfl rfl rfl (by kernel_rfl) rfl rfl ?_
        refine d_op 7 rfl (by kernel_rfl) (by kernel_rfl) (fun X hX => ?_)
        have hlq := KM.le.refl K1511
        obtain ⟨x1527, hx1528, hf⟩ := bs hf
        refine s_call isf65 hS.nilG (bonsaiseat_call_spec hx1528) rfl rfl rfl ?_
        rintro _ K1529 C1531 w hk1530 rfl hS
        replace hS := hS.drop1
        replace hlq := hlq.trans hk1530
        refine d_go [0] [0] [] [] hX hS hlq rfl rfl trivial ?_
        refine d_op 8 rfl (by kernel_rfl) (by kernel_rfl) (fun X hX => ?_)
        have hlq := KM.le.refl K1529
        obtain ⟨x1532, hx1533, hf⟩ := bs hf
        refine s_call isf51 hS.nilG (bonsaiseat_at_spec hx1533) rfl rfl rfl ?_
        rintro _ K1534 C1536 w hk1535 rfl hS
        replace hS := hS.drop1
        replace hlq := hlq.trans hk1535
        refine d_go [0] [0] [] [] hX hS hlq rfl rfl trivial ?_
        refine d_op 9 rfl (by kernel_rfl) (by kernel_rfl) (fun X hX => ?_)
        have hlq := KM.le.refl K1534
        refine s_bwc (cs := ((vv77 x1509) ++ ((vv77 x1527) ++ ((vv77 x1532) ++ [])))) hS rfl rfl rfl rfl rfl rfl rfl rfl rfl rfl ?_
        intro b1537 w hS
        refine d_go [1] [1] [] [] hX hS hlq rfl rfl trivial ?_
        refine d_op 10 rfl (by kernel_rfl) (by kernel_rfl) (fun X hX => ?_)
        have hlq := KM.le.refl K1534
        have h1539 : OwnS 77 K1534 (.slice (some ⟨b1537, 0, none⟩) 3 3) [x1509, x1527, x1532] [(b1537, Cl ((vv77 x1509) ++ ((vv77 x1527) ++ ((vv77 x1532) ++ []))) 77)] := OwnS.lit ⟨(vv77 x1509), _, rfl, rfl, ⟨(vv77 x1527), _, rfl, rfl, ⟨(vv77 x1532), _, rfl, rfl, rfl⟩⟩⟩ rfl rfl
        obtain ⟨K1540, hk1541, h1542, hS⟩ := h1539.freeze (hS.sel [0, 1, 2, 3, 4, 5, 6] rfl)
        replace hS : Sat w _ (flat [_, _, _, _, _, _]) := hS
        obtain ⟨x1543, hx1544, hf⟩ := bs hf
        have hkk15 := ((hk1512.trans hk1530).trans hk1535).trans hk1541
        replace h25 := h25.mono hkk15
        replace h30 := h30.mono hkk15
        refine s_call isf58 (Sat.shut3 (hS.sel [1, 2, 3, 0, 4, 5] rfl)) (bonsaiseat_builder_add_spec hx1544 h25 h30 h1542) rfl rfl rfl ?_
        rintro _ K1545 _ w hk1546 ⟨a1548, c1549, a1551, c1552, C1555, C1556, rfl, h1550, h1553, rfl⟩ hS
        replace hS := hS.open3
        replace hlq := hlq.trans (hk1541.trans hk1546)
        refine d_go [3] [3] [] [] hX hS hlq rfl rfl trivial ?_
        refine d_end (by kernel_rfl) ?_
        refine qn ?_
        have hq := Option.some.inj hf
        subst hq
        have hkk16 := hkk15.trans hk1546
        replace hle := hle.trans hkk16
        refine s_join hJ _ ⟨K1545, a1548, c1549, C1555, a1551, c1552, C1556, rfl, hle, h1550, h1553, (hS.sel [0, 1, 2, 5] rfl)⟩ ⟨rfl, trivial⟩
      obtain ⟨x1509, hx1510, hf⟩ := bs hf
      obtain ⟨x1518, hx1519, hf⟩ := bs hf
      obtain ⟨x1527, hx1528, hf⟩ := bs hf
      obtain ⟨x1532, hx1533, hf⟩ := bs hf
      obtain ⟨x1543, hx1544, hf⟩ := bs hf
      replace hf : ((idx ([(⟨#[105, 110, 99]⟩ : ByteArray), (⟨#[116, 119, 105, 99, 101]⟩ : ByteArray), (⟨#[119, 111, 114, 107]⟩ : ByteArray), (⟨#[100, 111, 119, 110]⟩ : ByteArray)] : List ByteArray) (Int.tmod p15 4)).bind fun x1563 => (bonsaiseat_at.fn 4 0).bind fun x1572 => (bonsaiseat_call.fn 36 (⟨#[85, 116, 105, 108]⟩ : ByteArray) x1563 (⟨#[40, 73, 41, 73]⟩ : ByteArray)).bind fun x1577 => (bonsaiseat_at.fn 5 0).bind fun x1582 => (bonsaiseat_builder_add.fn p1 [x1572, x1577, x1582]).bind fun x1593 => some (x1593.l_, x1593.h_)) = _ := Eq.trans (by simp only [hx1510, hx1519, hx1528, hx1533, hx1544, guardB, cond_true, Option.bind_some]) hf
      have hlq := KM.le.refl K24
      refine s_bwc (cs := [(.string (⟨#[105, 110, 99]⟩ : ByteArray)), (.string (⟨#[116, 119, 105, 99, 101]⟩ : ByteArray)), (.string (⟨#[119, 111, 114, 107]⟩ : ByteArray)), (.string (⟨#[100, 111, 119, 110]⟩ : ByteArray))]) hS rfl rfl rfl rfl rfl rfl rfl rfl rfl rfl ?_
      intro b1559 w hS
      refine d_go [] [0] [] [] hX hS hlq rfl rfl trivial ?_
      have h1561 : OwnS 9 K24 (.slice (some ⟨b1559, 0, none⟩) 4 4) ([(⟨#[105, 110, 99]⟩ : ByteArray), (⟨#[116, 119, 105, 99, 101]⟩ : ByteArray), (⟨#[119, 111, 114, 107]⟩ : ByteArray), (⟨#[100, 111, 119, 110]⟩ : ByteArray)] : List ByteArray) [(b1559, Cl [(.string (⟨#[105, 110, 99]⟩ : ByteArray)), (.string (⟨#[116, 119, 105, 99, 101]⟩ : ByteArray)), (.string (⟨#[119, 111, 114, 107]⟩ : ByteArray)), (.string (⟨#[100, 111, 119, 110]⟩ : ByteArray))] 9)] := OwnS.lit ⟨[(.string (⟨#[105, 110, 99]⟩ : ByteArray))], _, rfl, rfl, ⟨[(.string (⟨#[116, 119, 105, 99, 101]⟩ : ByteArray))], _, rfl, rfl, ⟨[(.string (⟨#[119, 111, 114, 107]⟩ : ByteArray))], _, rfl, rfl, ⟨[(.string (⟨#[100, 111, 119, 110]⟩ : ByteArray))], _, rfl, rfl, rfl⟩⟩⟩⟩ rfl rfl
      generalize hCg_ : ([(b1559, Cl [(.string (⟨#[105, 110, 99]⟩ : ByteArray)), (.string (⟨#[116, 119, 105, 99, 101]⟩ : ByteArray)), (.string (⟨#[119, 111, 114, 107]⟩ : ByteArray)), (.string (⟨#[100, 111, 119, 110]⟩ : ByteArray))] 9)] : Chunks) = C1562 at hS h1561 ⊢
      clear hCg_
      obtain ⟨x1563, hx1564, hf⟩ := bs hf
      refine d_ixo 5 0 (fun _ _ _ _ _ h => h) [0] hS rfl h1561 hx1564 rfl rfl rfl rfl rfl rfl rfl (by kernel_rfl) rfl rfl ?_
      intro b1565 l1566 cs1569 l1567 hcs_ hC1570 hun1568
      obtain rfl := hcs_
      subst hC1570
      have hq1571 := KM.le.refl K24
      refine d_ldm 6 0 0 (fun _ _ _ _ _ h => h) [0] hS rfl rfl rfl rfl rfl (by kernel_rfl) rfl rfl ?_
      refine d_op 1 rfl (by kernel_rfl) (by kernel_rfl) (fun X hX => ?_)
      have hlq := KM.le.refl K24
      obtain ⟨x1572, hx1573, hf⟩ := bs hf
      refine s_call isf51 hS.nilG (bonsaiseat_at_spec hx1573) rfl rfl rfl ?_
      rintro _ K1574 C1576 w hk1575 rfl hS
      replace hS := hS.drop1
      replace hlq := hlq.trans hk1575
      refine d_go [0] [0] [] [] hX hS hlq rfl rfl trivial ?_
      refine d_op 7 rfl (by kernel_rfl) (by kernel_rfl) (fun X hX => ?_)
      have hlq := KM.le.refl K1574
      obtain ⟨x1577, hx1578, hf⟩ := bs hf
      refine s_call isf65 hS.nilG (bonsaiseat_call_spec hx1578) rfl rfl rfl ?_
      rintro _ K1579 C1581 w hk1580 rfl hS
      replace hS := hS.drop1
      replace hlq := hlq.trans hk1580
      refine d_go [0] [0] [] [] hX hS hlq rfl rfl trivial ?_
      refine d_op 8 rfl (by kernel_rfl) (by kernel_rfl) (fun X hX => ?_)
      have hlq := KM.le.refl K1579
      obtain ⟨x1582, hx1583, hf⟩ := bs hf
      refine s_call isf51 hS.nilG (bonsaiseat_at_spec hx1583) rfl rfl rfl ?_
      rintro _ K1584 C1586 w hk1585 rfl hS
      replace hS := hS.drop1
      replace hlq := hlq.trans hk1585
      refine d_go [0] [0] [] [] hX hS hlq rfl rfl trivial ?_
      refine d_op 9 rfl (by kernel_rfl) (by kernel_rfl) (fun X hX => ?_)
      have hlq := KM.le.refl K1584
      refine s_bwc (cs := ((vv77 x1572) ++ ((vv77 x1577) ++ ((vv77 x1582) ++ [])))) hS rfl rfl rfl rfl rfl rfl rfl rfl rfl rfl ?_
      intro b1587 w hS
      refine d_go [1] [1] [] [] hX hS hlq rfl rfl trivial ?_
      refine d_op 10 rfl (by kernel_rfl) (by kernel_rfl) (fun X hX => ?_)
      have hlq := KM.le.refl K1584
      have h1589 : OwnS 77 K1584 (.slice (some ⟨b1587, 0, none⟩) 3 3) [x1572, x1577, x1582] [(b1587, Cl ((vv77 x1572) ++ ((vv77 x1577) ++ ((vv77 x1582) ++ []))) 77)] := OwnS.lit ⟨(vv77 x1572), _, rfl, rfl, ⟨(vv77 x1577), _, rfl, rfl, ⟨(vv77 x1582), _, rfl, rfl, rfl⟩⟩⟩ rfl rfl
      obtain ⟨K1590, hk1591, h1592, hS⟩ := h1589.freeze (hS.sel [0, 1, 2, 3, 4, 5, 6] rfl)
      replace hS : Sat w _ (flat [_, _, _, _, _, _]) := hS
      obtain ⟨x1593, hx1594, hf⟩ := bs hf
      have hkk17 := ((hk1575.trans hk1580).trans hk1585).trans hk1591
      replace h25 := h25.mono hkk17
      replace h30 := h30.mono hkk17
      refine s_call isf58 (Sat.shut3 (hS.sel [1, 2, 3, 0, 4, 5] rfl)) (bonsaiseat_builder_add_spec hx1594 h25 h30 h1592) rfl rfl rfl ?_
      rintro _ K1595 _ w hk1596 ⟨a1598, c1599, a1601, c1602, C1605, C1606, rfl, h1600, h1603, rfl⟩ hS
      replace hS := hS.open3
      replace hlq := hlq.trans (hk1591.trans hk1596)
      refine d_go [3] [3] [] [] hX hS hlq rfl rfl trivial ?_
      refine d_end (by kernel_rfl) ?_
      refine qn ?_
      have hq := Option.some.inj hf
      subst hq
      have hkk18 := hkk17.trans hk1596
      replace hle := hle.trans hkk18
      refine s_join hJ _ ⟨K1595, a1598, c1599, C1605, a1601, c1602, C1606, rfl, hle, h1600, h1603, (hS.sel [0, 1, 2, 5] rfl)⟩ ⟨rfl, trivial⟩
    rintro _ w ⟨K1388, a1390, c1391, C1392, a1395, c1396, C1397, rfl, hle, h1389, h1394, hS⟩
    refine qbn ?_
    have hq := Option.some.inj hf
    subst hq
    refine s_fall0 rfl ?_
    exact ⟨K1388, _, hle, ⟨a1390, c1391, a1395, c1396, C1392, C1397, rfl, h1389, h1394, rfl⟩, Sat.shut3 hS⟩
  replace hf := bif_f hc hf
  refine s_seq (s_reg ?_)
  iterate 2 refine s_v rfl rfl rfl ?_
  refine s_nil (qn ?_)
  refine s_if rfl (fun hc => ?_) (fun hc => ?_)
  · replace hf := bif_t hc hf
    refine d_start [3] [] hS ?_
    intro w hS
    refine d_v 0 (fun _ _ _ _ _ h => h) [3] hS rfl rfl rfl (by kernel_rfl) rfl rfl ?_
    refine d_ld (v := (.agg (vv77 x17).toArray)) 1 0 (fun _ _ _ _ _ h => h) [3] hS rfl rfl rfl rfl rfl (by kernel_rfl) rfl rfl ?_
    refine d_op 2 rfl (by kernel_rfl) (by kernel_rfl) (fun X hX => ?_)
    have hlq := KM.le.refl K24
    obtain ⟨x1641, hx1642, hf⟩ := bs hf
    refine s_call isf65 hS.nilG (bonsaiseat_call_spec hx1642) rfl rfl rfl ?_
    rintro _ K1643 C1645 w hk1644 rfl hS
    replace hS := hS.drop1
    replace hlq := hlq.trans hk1644
    refine d_go [3] [3] [] [] hX hS hlq rfl rfl trivial ?_
    refine d_op 3 rfl (by kernel_rfl) (by kernel_rfl) (fun X hX => ?_)
    have hlq := KM.le.refl K1643
    obtain ⟨x1646, hx1647, hf⟩ := bs hf
    refine s_call isf51 hS.nilG (bonsaiseat_at_spec hx1647) rfl rfl rfl ?_
    rintro _ K1648 C1650 w hk1649 rfl hS
    replace hS := hS.drop1
    replace hlq := hlq.trans hk1649
    refine d_go [3] [3] [] [] hX hS hlq rfl rfl trivial ?_
    refine d_op 4 rfl (by kernel_rfl) (by kernel_rfl) (fun X hX => ?_)
    have hlq := KM.le.refl K1648
    refine s_bwc (cs := ((vv77 x17) ++ ((vv77 x1641) ++ ((vv77 x1646) ++ [])))) hS rfl rfl rfl rfl rfl rfl rfl rfl rfl rfl ?_
    intro b1651 w hS
    refine d_go [4] [4] [] [] hX hS hlq rfl rfl trivial ?_
    refine d_op 5 rfl (by kernel_rfl) (by kernel_rfl) (fun X hX => ?_)
    have hlq := KM.le.refl K1648
    have h1653 : OwnS 77 K1648 (.slice (some ⟨b1651, 0, none⟩) 3 3) [x17, x1641, x1646] [(b1651, Cl ((vv77 x17) ++ ((vv77 x1641) ++ ((vv77 x1646) ++ []))) 77)] := OwnS.lit ⟨(vv77 x17), _, rfl, rfl, ⟨(vv77 x1641), _, rfl, rfl, ⟨(vv77 x1646), _, rfl, rfl, rfl⟩⟩⟩ rfl rfl
    obtain ⟨K1654, hk1655, h1656, hS⟩ := h1653.freeze (hS.sel [0, 1, 2, 3, 4, 5] rfl)
    replace hS : Sat w _ (flat [_, _, _, _, _]) := hS
    obtain ⟨x1657, hx1658, hf⟩ := bs hf
    replace h25 := h25.mono ((hk1644.trans hk1649).trans hk1655)
    replace h30 := h30.mono ((hk1644.trans hk1649).trans hk1655)
    refine s_call isf58 (Sat.shut3 hS) (bonsaiseat_builder_add_spec hx1658 h25 h30 h1656) rfl rfl rfl ?_
    rintro _ K1659 _ w hk1660 ⟨a1662, c1663, a1665, c1666, C1669, C1670, rfl, h1664, h1667, rfl⟩ hS
    replace hS := hS.open3
    replace hlq := hlq.trans (hk1655.trans hk1660)
    refine d_go [3] [3] [] [] hX hS hlq rfl rfl trivial ?_
    refine d_end (by kernel_rfl) ?_
    refine qbn ?_
    have hq := Option.some.inj hf
    subst hq
    refine s_fall0 rfl ?_
    have hkk19 := ((hk1644.trans hk1649).trans hk1655).trans hk1660
    replace hle := hle.trans hkk19
    exact ⟨K1659, _, hle, ⟨a1662, c1663, a1665, c1666, C1669, C1670, rfl, h1664, h1667, rfl⟩, Sat.shut3 (hS.sel [0, 1, 2, 4] rfl)⟩
  replace hf := bif_f hc hf
  refine s_seq (s_reg ?_)
  iterate 2 refine s_v rfl rfl rfl ?_
  refine s_nil (qn ?_)
  refine s_if rfl (fun hc => ?_) (fun hc => ?_)
  · replace hf := bif_t hc hf
    refine s_seq (s_reg ?_)
    refine s_v rfl rfl rfl ?_
    obtain ⟨x1673, hx1674, hf⟩ := bs hf
    refine s_call isf65 hS.nilG (bonsaiseat_call_spec hx1674) rfl rfl rfl ?_
    rintro _ K1675 C1677 w hk1676 rfl hS
    replace hS := hS.drop1
    refine s_bwc (cs := (vv77 x1673)) hS rfl rfl rfl rfl rfl rfl rfl rfl rfl rfl ?_
    intro b1678 w hS
    have h1680 : OwnS 77 K1675 (.slice (some ⟨b1678, 0, none⟩) 1 1) [x1673] [(b1678, Cl (vv77 x1673) 77)] := OwnS.lit ⟨(vv77 x1673), _, rfl, rfl, rfl⟩ rfl rfl
    obtain ⟨K1681, hk1682, h1683, hS⟩ := h1680.freeze (hS.sel [0, 1, 2, 3, 4, 5] rfl)
    replace hS : Sat w _ (flat [_, _, _, _, _]) := hS
    obtain ⟨x1684, hx1685, hf⟩ := bs hf
    replace h25 := h25.mono (hk1676.trans hk1682)
    replace h30 := h30.mono (hk1676.trans hk1682)
    refine s_call isf58 (Sat.shut3 hS) (bonsaiseat_builder_add_spec hx1685 h25 h30 h1683) rfl rfl rfl ?_
    rintro _ K1686 _ w hk1687 ⟨a1689, c1690, a1692, c1693, C1696, C1697, rfl, h1691, h1694, rfl⟩ hS
    replace hS := hS.open3
    refine s_nil (qn ?_)
    replace hS : Sat w K1686 (flat [_, _, _, _]) := (hS.sel [0, 1, 2, 4] rfl)
    refine s_reg ?_
    iterate 2 refine s_v rfl rfl rfl ?_
    refine s_bwc (cs := [(.string (⟨#[69, 114, 114]⟩ : ByteArray)), (.string (⟨#[69, 114, 114, 50]⟩ : ByteArray)), (.string (⟨#[70, 97, 117, 108, 116]⟩ : ByteArray)), (.string (⟨#[78, 117, 108, 108, 70, 97, 117, 108, 116]⟩ : ByteArray))]) hS rfl rfl rfl rfl rfl rfl rfl rfl rfl rfl ?_
    intro b1700 w hS
    iterate 2 refine s_v rfl rfl rfl ?_
    have h1702 : OwnS 9 K1686 (.slice (some ⟨b1700, 0, none⟩) 4 4) ([(⟨#[69, 114, 114]⟩ : ByteArray), (⟨#[69, 114, 114, 50]⟩ : ByteArray), (⟨#[70, 97, 117, 108, 116]⟩ : ByteArray), (⟨#[78, 117, 108, 108, 70, 97, 117, 108, 116]⟩ : ByteArray)] : List ByteArray) [(b1700, Cl [(.string (⟨#[69, 114, 114]⟩ : ByteArray)), (.string (⟨#[69, 114, 114, 50]⟩ : ByteArray)), (.string (⟨#[70, 97, 117, 108, 116]⟩ : ByteArray)), (.string (⟨#[78, 117, 108, 108, 70, 97, 117, 108, 116]⟩ : ByteArray))] 9)] := OwnS.lit ⟨[(.string (⟨#[69, 114, 114]⟩ : ByteArray))], _, rfl, rfl, ⟨[(.string (⟨#[69, 114, 114, 50]⟩ : ByteArray))], _, rfl, rfl, ⟨[(.string (⟨#[70, 97, 117, 108, 116]⟩ : ByteArray))], _, rfl, rfl, ⟨[(.string (⟨#[78, 117, 108, 108, 70, 97, 117, 108, 116]⟩ : ByteArray))], _, rfl, rfl, rfl⟩⟩⟩⟩ rfl rfl
    generalize hCg_ : ([(b1700, Cl [(.string (⟨#[69, 114, 114]⟩ : ByteArray)), (.string (⟨#[69, 114, 114, 50]⟩ : ByteArray)), (.string (⟨#[70, 97, 117, 108, 116]⟩ : ByteArray)), (.string (⟨#[78, 117, 108, 108, 70, 97, 117, 108, 116]⟩ : ByteArray))] 9)] : Chunks) = C1703 at hS h1702
    clear hCg_
    obtain ⟨x1704, hx1705, hf⟩ := bs hf
    refine s_ixo 0 hS rfl h1702 hx1705 rfl rfl rfl rfl rfl rfl rfl ?_
    intro b1706 l1707 cs1710 l1708 hcs_ hC1711 hun1709
    obtain rfl := hcs_
    subst hC1711
    have hq1712 := KM.le.refl K1686
    refine s_ldm 0 0 hS rfl rfl rfl rfl rfl ?_
    obtain ⟨x1713, hx1714, hf⟩ := bs hf
    refine s_call isf68 (Sat.shut3 (hS.sel [1, 2, 3, 0, 4] rfl)) (bonsaiseat_builder_try_spec hx1714 h1691 h1694) rfl rfl rfl ?_
    rintro _ K1715 _ w hk1716 ⟨a1718, c1719, a1721, c1722, C1725, C1726, rfl, h1720, h1723, rfl⟩ hS
    replace hS := hS.open3
    refine s_nil (qbn ?_)
    have hq := Option.some.inj hf
    subst hq
    refine s_fall0 rfl ?_
    have hkk20 := ((hk1676.trans hk1682).trans hk1687).trans hk1716
    replace hle := hle.trans hkk20
    exact ⟨K1715, _, hle, ⟨a1718, c1719, a1721, c1722, C1725, C1726, rfl, h1720, h1723, rfl⟩, Sat.shut3 (hS.sel [0, 1, 2, 4] rfl)⟩
  replace hf := bif_f hc hf
  refine s_seq (s_reg ?_)
  iterate 2 refine s_v rfl rfl rfl ?_
  refine s_nil (qn ?_)
  refine s_if rfl (fun hc => ?_) (fun hc => ?_)
  · replace hf := bif_t hc hf
    refine d_start [3] [] hS ?_
    intro w hS
    refine d_v 0 (fun _ _ _ _ _ h => h) [3] hS rfl rfl rfl (by kernel_rfl) rfl rfl ?_
    refine d_ld (v := (.agg (vv77 x17).toArray)) 1 0 (fun _ _ _ _ _ h => h) [3] hS rfl rfl rfl rfl rfl (by kernel_rfl) rfl rfl ?_
    refine d_ld (v := (.agg (vv77 x17).toArray)) 2 0 (fun _ _ _ _ _ h => h) [3] hS rfl rfl rfl rfl rfl (by kernel_rfl) rfl rfl ?_
    refine d_ld (v := (.agg (vv77 x17).toArray)) 4 0 (fun _ _ _ _ _ h => h) [3] hS rfl rfl rfl rfl rfl (by kernel_rfl) rfl rfl ?_
    refine d_op 3 rfl (by kernel_rfl) (by kernel_rfl) (fun X hX => ?_)
    have hlq := KM.le.refl K24
    obtain ⟨x1766, hx1767, hf⟩ := bs hf
    refine s_call isf66 hS.nilG (bonsaiseat_part_spec hx1767) rfl rfl rfl ?_
    rintro _ K1768 C1770 w hk1769 rfl hS
    replace hS := hS.drop1
    replace hlq := hlq.trans hk1769
    refine d_go [3] [3] [] [] hX hS hlq rfl rfl trivial ?_
    refine d_op 5 rfl (by kernel_rfl) (by kernel_rfl) (fun X hX => ?_)
    have hlq := KM.le.refl K1768
    obtain ⟨x1771, hx1772, hf⟩ := bs hf
    refine s_call isf66 hS.nilG (bonsaiseat_part_spec hx1772) rfl rfl rfl ?_
    rintro _ K1773 C1775 w hk1774 rfl hS
    replace hS := hS.drop1
    replace hlq := hlq.trans hk1774
    refine d_go [3] [3] [] [] hX hS hlq rfl rfl trivial ?_
    refine d_op 6 rfl (by kernel_rfl) (by kernel_rfl) (fun X hX => ?_)
    have hlq := KM.le.refl K1773
    obtain ⟨x1776, hx1777, hf⟩ := bs hf
    refine s_call isf51 hS.nilG (bonsaiseat_at_spec hx1777) rfl rfl rfl ?_
    rintro _ K1778 C1780 w hk1779 rfl hS
    replace hS := hS.drop1
    replace hlq := hlq.trans hk1779
    refine d_go [3] [3] [] [] hX hS hlq rfl rfl trivial ?_
    refine d_op 7 rfl (by kernel_rfl) (by kernel_rfl) (fun X hX => ?_)
    have hlq := KM.le.refl K1778
    refine s_bwc (cs := ((vv77 x17) ++ ((vv77 x17) ++ ((vv77 x1766) ++ ((vv77 x17) ++ ((vv77 x1771) ++ ((vv77 x1776) ++ []))))))) hS rfl rfl rfl rfl rfl rfl rfl rfl rfl rfl ?_
    intro b1781 w hS
    refine d_go [4] [4] [] [] hX hS hlq rfl rfl trivial ?_
    refine d_op 8 rfl (by kernel_rfl) (by kernel_rfl) (fun X hX => ?_)
    have hlq := KM.le.refl K1778
    have h1783 : OwnS 77 K1778 (.slice (some ⟨b1781, 0, none⟩) 6 6) [x17, x17, x1766, x17, x1771, x1776] [(b1781, Cl ((vv77 x17) ++ ((vv77 x17) ++ ((vv77 x1766) ++ ((vv77 x17) ++ ((vv77 x1771) ++ ((vv77 x1776) ++ [])))))) 77)] := OwnS.lit ⟨(vv77 x17), _, rfl, rfl, ⟨(vv77 x17), _, rfl, rfl, ⟨(vv77 x1766), _, rfl, rfl, ⟨(vv77 x17), _, rfl, rfl, ⟨(vv77 x1771), _, rfl, rfl, ⟨(vv77 x1776), _, rfl, rfl, rfl⟩⟩⟩⟩⟩⟩ rfl rfl
    obtain ⟨K1784, hk1785, h1786, hS⟩ := h1783.freeze (hS.sel [0, 1, 2, 3, 4, 5] rfl)
    replace hS : Sat w _ (flat [_, _, _, _, _]) := hS
    obtain ⟨x1787, hx1788, hf⟩ := bs hf
    have hkk21 := ((hk1769.trans hk1774).trans hk1779).trans hk1785
    replace h25 := h25.mono hkk21
    replace h30 := h30.mono hkk21
    refine s_call isf58 (Sat.shut3 hS) (bonsaiseat_builder_add_spec hx1788 h25 h30 h1786) rfl rfl rfl ?_
    rintro _ K1789 _ w hk1790 ⟨a1792, c1793, a1795, c1796, C1799, C1800, rfl, h1794, h1797, rfl⟩ hS
    replace hS := hS.open3
    replace hlq := hlq.trans (hk1785.trans hk1790)
    refine d_go [3] [3] [] [] hX hS hlq rfl rfl trivial ?_
    refine d_end (by kernel_rfl) ?_
    refine qbn ?_
    have hq := Option.some.inj hf
    subst hq
    refine s_fall0 rfl ?_
    have hkk22 := hkk21.trans hk1790
    replace hle := hle.trans hkk22
    exact ⟨K1789, _, hle, ⟨a1792, c1793, a1795, c1796, C1799, C1800, rfl, h1794, h1797, rfl⟩, Sat.shut3 (hS.sel [0, 1, 2, 4] rfl)⟩
  replace hf := bif_f hc hf
  refine s_seq (s_reg ?_)
  iterate 2 refine s_v rfl rfl rfl ?_
  refine s_nil (qn ?_)
  refine s_if rfl (fun hc => ?_) (fun hc => ?_)
  · replace hf := bif_t hc hf
    refine d_start [3] [] hS ?_
    intro w hS
    refine d_v 0 (fun _ _ _ _ _ h => h) [3] hS rfl rfl rfl (by kernel_rfl) rfl rfl ?_
    refine d_ld (v := (.agg (vv77 x17).toArray)) 1 0 (fun _ _ _ _ _ h => h) [3] hS rfl rfl rfl rfl rfl (by kernel_rfl) rfl rfl ?_
    refine d_v 3 (fun _ _ _ _ _ h => h) [3] hS rfl rfl rfl (by kernel_rfl) rfl rfl ?_
    refine d_v 4 (fun _ _ _ _ _ h => h) [3] hS rfl rfl rfl (by kernel_rfl) rfl rfl ?_
    refine d_op 2 rfl (by kernel_rfl) (by kernel_rfl) (fun X hX => ?_)
    have hlq := KM.le.refl K24
    refine s_bwc (cs := [(.string (⟨#[66]⟩ : ByteArray)), (.string (⟨#[77, 105, 100]⟩ : ByteArray)), (.string (⟨#[73]⟩ : ByteArray)), (.string (⟨#[66, 97, 115, 101]⟩ : ByteArray)), (.string (⟨#[79, 98, 106, 101, 99, 116]⟩ : ByteArray)), (.string (⟨#[67]⟩ : ByteArray))]) hS rfl rfl rfl rfl rfl rfl rfl rfl rfl rfl ?_
    intro b1848 w hS
    refine d_go [4] [0, 4] [] [] hX hS hlq rfl rfl trivial ?_
    have h1850 : OwnS 9 K24 (.slice (some ⟨b1848, 0, none⟩) 6 6) ([(⟨#[66]⟩ : ByteArray), (⟨#[77, 105, 100]⟩ : ByteArray), (⟨#[73]⟩ : ByteArray), (⟨#[66, 97, 115, 101]⟩ : ByteArray), (⟨#[79, 98, 106, 101, 99, 116]⟩ : ByteArray), (⟨#[67]⟩ : ByteArray)] : List ByteArray) [(b1848, Cl [(.string (⟨#[66]⟩ : ByteArray)), (.string (⟨#[77, 105, 100]⟩ : ByteArray)), (.string (⟨#[73]⟩ : ByteArray)), (.string (⟨#[66, 97, 115, 101]⟩ : ByteArray)), (.string (⟨#[79, 98, 106, 101, 99, 116]⟩ : ByteArray)), (.string (⟨#[67]⟩ : ByteArray))] 9)] := OwnS.lit ⟨[(.string (⟨#[66]⟩ : ByteArray))], _, rfl, rfl, ⟨[(.string (⟨#[77, 105, 100]⟩ : ByteArray))], _, rfl, rfl, ⟨[(.string (⟨#[73]⟩ : ByteArray))], _, rfl, rfl, ⟨[(.string (⟨#[66, 97, 115, 101]⟩ : ByteArray))], _, rfl, rfl, ⟨[(.string (⟨#[79, 98, 106, 101, 99, 116]⟩ : ByteArray))], _, rfl, rfl, ⟨[(.string (⟨#[67]⟩ : ByteArray))], _, rfl, rfl, rfl⟩⟩⟩⟩⟩⟩ rfl rfl
    generalize hCg_ : ([(b1848, Cl [(.string (⟨#[66]⟩ : ByteArray)), (.string (⟨#[77, 105, 100]⟩ : ByteArray)), (.string (⟨#[73]⟩ : ByteArray)), (.string (⟨#[66, 97, 115, 101]⟩ : ByteArray)), (.string (⟨#[79, 98, 106, 101, 99, 116]⟩ : ByteArray)), (.string (⟨#[67]⟩ : ByteArray))] 9)] : Chunks) = C1851 at hS h1850 ⊢
    clear hCg_
    obtain ⟨x1852, hx1853, hf⟩ := bs hf
    refine d_ixo 5 0 (fun _ _ _ _ _ h => h) [0, 4] hS rfl h1850 hx1853 rfl rfl rfl rfl rfl rfl rfl (by kernel_rfl) rfl rfl ?_
    intro b1854 l1855 cs1858 l1856 hcs_ hC1859 hun1857
    obtain rfl := hcs_
    subst hC1859
    have hq1860 := KM.le.refl K24
    refine d_ldm 6 0 0 (fun _ _ _ _ _ h => h) [0, 4] hS rfl rfl rfl rfl rfl (by kernel_rfl) rfl rfl ?_
    refine d_op 7 rfl (by kernel_rfl) (by kernel_rfl) (fun X hX => ?_)
    have hlq := KM.le.refl K24
    obtain ⟨x1861, hx1862, hf⟩ := bs hf
    refine s_call isf49 hS.nilG (bonsaiseat_of_spec hx1862) rfl rfl rfl ?_
    rintro _ K1863 C1865 w hk1864 rfl hS
    replace hS := hS.drop1
    replace hlq := hlq.trans hk1864
    refine d_go [0, 4] [0, 4] [] [] hX hS hlq rfl rfl trivial ?_
    refine d_op 8 rfl (by kernel_rfl) (by kernel_rfl) (fun X hX => ?_)
    have hlq := KM.le.refl K1863
    obtain ⟨x1866, hx1867, hf⟩ := bs hf
    refine s_call isf51 hS.nilG (bonsaiseat_at_spec hx1867) rfl rfl rfl ?_
    rintro _ K1868 C1870 w hk1869 rfl hS
    replace hS := hS.drop1
    replace hlq := hlq.trans hk1869
    refine d_go [0, 4] [0, 4] [] [] hX hS hlq rfl rfl trivial ?_
    refine d_op 9 rfl (by kernel_rfl) (by kernel_rfl) (fun X hX => ?_)
    have hlq := KM.le.refl K1868
    refine s_bwc (cs := ((vv77 x17) ++ ((vv77 x1861) ++ ((vv77 x1866) ++ [])))) hS rfl rfl rfl rfl rfl rfl rfl rfl rfl rfl ?_
    intro b1871 w hS
    refine d_go [1, 5] [1, 5] [] [] hX hS hlq rfl rfl trivial ?_
    refine d_op 10 rfl (by kernel_rfl) (by kernel_rfl) (fun X hX => ?_)
    have hlq := KM.le.refl K1868
    have h1873 : OwnS 77 K1868 (.slice (some ⟨b1871, 0, none⟩) 3 3) [x17, x1861, x1866] [(b1871, Cl ((vv77 x17) ++ ((vv77 x1861) ++ ((vv77 x1866) ++ []))) 77)] := OwnS.lit ⟨(vv77 x17), _, rfl, rfl, ⟨(vv77 x1861), _, rfl, rfl, ⟨(vv77 x1866), _, rfl, rfl, rfl⟩⟩⟩ rfl rfl
    obtain ⟨K1874, hk1875, h1876, hS⟩ := h1873.freeze (hS.sel [0, 1, 2, 3, 4, 5, 6] rfl)
    replace hS : Sat w _ (flat [_, _, _, _, _, _]) := hS
    obtain ⟨x1877, hx1878, hf⟩ := bs hf
    replace h25 := h25.mono ((hk1864.trans hk1869).trans hk1875)
    replace h30 := h30.mono ((hk1864.trans hk1869).trans hk1875)
    refine s_call isf58 (Sat.shut3 (hS.sel [1, 2, 3, 0, 4, 5] rfl)) (bonsaiseat_builder_add_spec hx1878 h25 h30 h1876) rfl rfl rfl ?_
    rintro _ K1879 _ w hk1880 ⟨a1882, c1883, a1885, c1886, C1889, C1890, rfl, h1884, h1887, rfl⟩ hS
    replace hS := hS.open3
    replace hlq := hlq.trans (hk1875.trans hk1880)
    refine d_go [3, 4] [3, 4] [] [] hX hS hlq rfl rfl trivial ?_
    refine d_end (by kernel_rfl) ?_
    refine qbn ?_
    have hq := Option.some.inj hf
    subst hq
    refine s_fall0 rfl ?_
    have hkk23 := ((hk1864.trans hk1869).trans hk1875).trans hk1880
    replace hle := hle.trans hkk23
    exact ⟨K1879, _, hle, ⟨a1882, c1883, a1885, c1886, C1889, C1890, rfl, h1884, h1887, rfl⟩, Sat.shut3 (hS.sel [0, 1, 2, 5] rfl)⟩
  replace hf := bif_f hc hf
  refine s_seq (s_reg ?_)
  iterate 2 refine s_v rfl rfl rfl ?_
  refine s_nil (qn ?_)
  refine s_if rfl (fun hc => ?_) (fun hc => ?_)
  · replace hf := bif_t hc hf
    refine s_seq ?_
    refine d_start [3] [] hS ?_
    intro w hS
    refine d_v 0 (fun _ _ _ _ _ h => h) [3] hS rfl rfl rfl (by kernel_rfl) rfl rfl ?_
    refine d_ld (v := (.agg (vv77 x17).toArray)) 1 0 (fun _ _ _ _ _ h => h) [3] hS rfl rfl rfl rfl rfl (by kernel_rfl) rfl rfl ?_
    refine d_v 3 (fun _ _ _ _ _ h => h) [3] hS rfl rfl rfl (by kernel_rfl) rfl rfl ?_
    refine d_v 4 (fun _ _ _ _ _ h => h) [3] hS rfl rfl rfl (by kernel_rfl) rfl rfl ?_
    refine d_op 2 rfl (by kernel_rfl) (by kernel_rfl) (fun X hX => ?_)
    have hlq := KM.le.refl K24
    refine s_bwc (cs := [(.string (⟨#[66]⟩ : ByteArray)), (.string (⟨#[77, 105, 100]⟩ : ByteArray)), (.string (⟨#[65]⟩ : ByteArray)), (.string (⟨#[68]⟩ : ByteArray))]) hS rfl rfl rfl rfl rfl rfl rfl rfl rfl rfl ?_
    intro b1938 w hS
    refine d_go [4] [0, 4] [] [] hX hS hlq rfl rfl trivial ?_
    have h1940 : OwnS 9 K24 (.slice (some ⟨b1938, 0, none⟩) 4 4) ([(⟨#[66]⟩ : ByteArray), (⟨#[77, 105, 100]⟩ : ByteArray), (⟨#[65]⟩ : ByteArray), (⟨#[68]⟩ : ByteArray)] : List ByteArray) [(b1938, Cl [(.string (⟨#[66]⟩ : ByteArray)), (.string (⟨#[77, 105, 100]⟩ : ByteArray)), (.string (⟨#[65]⟩ : ByteArray)), (.string (⟨#[68]⟩ : ByteArray))] 9)] := OwnS.lit ⟨[(.string (⟨#[66]⟩ : ByteArray))], _, rfl, rfl, ⟨[(.string (⟨#[77, 105, 100]⟩ : ByteArray))], _, rfl, rfl, ⟨[(.string (⟨#[65]⟩ : ByteArray))], _, rfl, rfl, ⟨[(.string (⟨#[68]⟩ : ByteArray))], _, rfl, rfl, rfl⟩⟩⟩⟩ rfl rfl
    generalize hCg_ : ([(b1938, Cl [(.string (⟨#[66]⟩ : ByteArray)), (.string (⟨#[77, 105, 100]⟩ : ByteArray)), (.string (⟨#[65]⟩ : ByteArray)), (.string (⟨#[68]⟩ : ByteArray))] 9)] : Chunks) = C1941 at hS h1940 ⊢
    clear hCg_
    obtain ⟨x1942, hx1943, hf⟩ := bs hf
    refine d_ixo 5 0 (fun _ _ _ _ _ h => h) [0, 4] hS rfl h1940 hx1943 rfl rfl rfl rfl rfl rfl rfl (by kernel_rfl) rfl rfl ?_
    intro b1944 l1945 cs1948 l1946 hcs_ hC1949 hun1947
    obtain rfl := hcs_
    subst hC1949
    have hq1950 := KM.le.refl K24
    refine d_ldm 6 0 0 (fun _ _ _ _ _ h => h) [0, 4] hS rfl rfl rfl rfl rfl (by kernel_rfl) rfl rfl ?_
    refine d_op 7 rfl (by kernel_rfl) (by kernel_rfl) (fun X hX => ?_)
    have hlq := KM.le.refl K24
    obtain ⟨x1951, hx1952, hf⟩ := bs hf
    refine s_call isf49 hS.nilG (bonsaiseat_of_spec hx1952) rfl rfl rfl ?_
    rintro _ K1953 C1955 w hk1954 rfl hS
    replace hS := hS.drop1
    replace hlq := hlq.trans hk1954
    refine d_go [0, 4] [0, 4] [] [] hX hS hlq rfl rfl trivial ?_
    refine d_op 8 rfl (by kernel_rfl) (by kernel_rfl) (fun X hX => ?_)
    have hlq := KM.le.refl K1953
    obtain ⟨x1956, hx1957, hf⟩ := bs hf
    refine s_call isf51 hS.nilG (bonsaiseat_at_spec hx1957) rfl rfl rfl ?_
    rintro _ K1958 C1960 w hk1959 rfl hS
    replace hS := hS.drop1
    replace hlq := hlq.trans hk1959
    refine d_go [0, 4] [0, 4] [] [] hX hS hlq rfl rfl trivial ?_
    refine d_op 9 rfl (by kernel_rfl) (by kernel_rfl) (fun X hX => ?_)
    have hlq := KM.le.refl K1958
    refine s_bwc (cs := ((vv77 x17) ++ ((vv77 x1951) ++ ((vv77 x1956) ++ [])))) hS rfl rfl rfl rfl rfl rfl rfl rfl rfl rfl ?_
    intro b1961 w hS
    refine d_go [1, 5] [1, 5] [] [] hX hS hlq rfl rfl trivial ?_
    refine d_op 10 rfl (by kernel_rfl) (by kernel_rfl) (fun X hX => ?_)
    have hlq := KM.le.refl K1958
    have h1963 : OwnS 77 K1958 (.slice (some ⟨b1961, 0, none⟩) 3 3) [x17, x1951, x1956] [(b1961, Cl ((vv77 x17) ++ ((vv77 x1951) ++ ((vv77 x1956) ++ []))) 77)] := OwnS.lit ⟨(vv77 x17), _, rfl, rfl, ⟨(vv77 x1951), _, rfl, rfl, ⟨(vv77 x1956), _, rfl, rfl, rfl⟩⟩⟩ rfl rfl
    obtain ⟨K1964, hk1965, h1966, hS⟩ := h1963.freeze (hS.sel [0, 1, 2, 3, 4, 5, 6] rfl)
    replace hS : Sat w _ (flat [_, _, _, _, _, _]) := hS
    obtain ⟨x1967, hx1968, hf⟩ := bs hf
    replace h25 := h25.mono ((hk1954.trans hk1959).trans hk1965)
    replace h30 := h30.mono ((hk1954.trans hk1959).trans hk1965)
    refine s_call isf58 (Sat.shut3 (hS.sel [1, 2, 3, 0, 4, 5] rfl)) (bonsaiseat_builder_add_spec hx1968 h25 h30 h1966) rfl rfl rfl ?_
    rintro _ K1969 _ w hk1970 ⟨a1972, c1973, a1975, c1976, C1979, C1980, rfl, h1974, h1977, rfl⟩ hS
    replace hS := hS.open3
    replace hlq := hlq.trans (hk1965.trans hk1970)
    refine d_go [3, 4] [3, 4] [] [] hX hS hlq rfl rfl trivial ?_
    refine d_end (by kernel_rfl) ?_
    refine qn ?_
    replace hS : Sat w K1969 (flat [_, _, _, _]) := (hS.sel [0, 1, 2, 5] rfl)
    refine s_reg ?_
    iterate 2 refine s_v rfl rfl rfl ?_
    refine s_bwc (cs := [(.string (⟨#[67, 97, 115, 116, 70, 97, 117, 108, 116]⟩ : ByteArray)), (.string (⟨#[70, 97, 117, 108, 116]⟩ : ByteArray))]) hS rfl rfl rfl rfl rfl rfl rfl rfl rfl rfl ?_
    intro b1983 w hS
    iterate 3 refine s_v rfl rfl rfl ?_
    have h1985 : OwnS 9 K1969 (.slice (some ⟨b1983, 0, none⟩) 2 2) ([(⟨#[67, 97, 115, 116, 70, 97, 117, 108, 116]⟩ : ByteArray), (⟨#[70, 97, 117, 108, 116]⟩ : ByteArray)] : List ByteArray) [(b1983, Cl [(.string (⟨#[67, 97, 115, 116, 70, 97, 117, 108, 116]⟩ : ByteArray)), (.string (⟨#[70, 97, 117, 108, 116]⟩ : ByteArray))] 9)] := OwnS.lit ⟨[(.string (⟨#[67, 97, 115, 116, 70, 97, 117, 108, 116]⟩ : ByteArray))], _, rfl, rfl, ⟨[(.string (⟨#[70, 97, 117, 108, 116]⟩ : ByteArray))], _, rfl, rfl, rfl⟩⟩ rfl rfl
    generalize hCg_ : ([(b1983, Cl [(.string (⟨#[67, 97, 115, 116, 70, 97, 117, 108, 116]⟩ : ByteArray)), (.string (⟨#[70, 97, 117, 108, 116]⟩ : ByteArray))] 9)] : Chunks) = C1986 at hS h1985
    clear hCg_
    obtain ⟨x1987, hx1988, hf⟩ := bs hf
    refine s_ixo 0 hS rfl h1985 hx1988 rfl rfl rfl rfl rfl rfl rfl ?_
    intro b1989 l1990 cs1993 l1991 hcs_ hC1994 hun1992
    obtain rfl := hcs_
    subst hC1994
    have hq1995 := KM.le.refl K1969
    refine s_ldm 0 0 hS rfl rfl rfl rfl rfl ?_
    obtain ⟨x1996, hx1997, hf⟩ := bs hf
    refine s_call isf68 (Sat.shut3 (hS.sel [1, 2, 3, 0, 4] rfl)) (bonsaiseat_builder_try_spec hx1997 h1974 h1977) rfl rfl rfl ?_
    rintro _ K1998 _ w hk1999 ⟨a2001, c2002, a2004, c2005, C2008, C2009, rfl, h2003, h2006, rfl⟩ hS
    replace hS := hS.open3
    refine s_nil (qbn ?_)
    have hq := Option.some.inj hf
    subst hq
    refine s_fall0 rfl ?_
    have hkk24 := (((hk1954.trans hk1959).trans hk1965).trans hk1970).trans hk1999
    replace hle := hle.trans hkk24
    exact ⟨K1998, _, hle, ⟨a2001, c2002, a2004, c2005, C2008, C2009, rfl, h2003, h2006, rfl⟩, Sat.shut3 (hS.sel [0, 1, 2, 4] rfl)⟩
  replace hf := bif_f hc hf
  refine s_seq (s_reg ?_)
  iterate 2 refine s_v rfl rfl rfl ?_
  refine s_nil (qn ?_)
  refine s_if rfl (fun hc => ?_) (fun hc => ?_)
  · replace hf := bif_t hc hf
    refine d_start [3] [] hS ?_
    intro w hS
    refine d_v 0 (fun _ _ _ _ _ h => h) [3] hS rfl rfl rfl (by kernel_rfl) rfl rfl ?_
    refine d_ld (v := (.agg (vv77 x17).toArray)) 1 0 (fun _ _ _ _ _ h => h) [3] hS rfl rfl rfl rfl rfl (by kernel_rfl) rfl rfl ?_
    refine d_ld (v := (.agg (vv77 x17).toArray)) 2 0 (fun _ _ _ _ _ h => h) [3] hS rfl rfl rfl rfl rfl (by kernel_rfl) rfl rfl ?_
    refine d_op 3 rfl (by kernel_rfl) (by kernel_rfl) (fun X hX => ?_)
    have hlq := KM.le.refl K24
    obtain ⟨x2049, hx2050, hf⟩ := bs hf
    refine s_call isf66 hS.nilG (bonsaiseat_part_spec hx2050) rfl rfl rfl ?_
    rintro _ K2051 C2053 w hk2052 rfl hS
    replace hS := hS.drop1
    replace hlq := hlq.trans hk2052
    refine d_go [3] [3] [] [] hX hS hlq rfl rfl trivial ?_
    refine d_op 4 rfl (by kernel_rfl) (by kernel_rfl) (fun X hX => ?_)
    have hlq := KM.le.refl K2051
    obtain ⟨x2054, hx2055, hf⟩ := bs hf
    refine s_call isf50 hS.nilG (bonsaiseat_one_spec hx2055) rfl rfl rfl ?_
    rintro _ K2056 C2058 w hk2057 rfl hS
    replace hS := hS.drop1
    replace hlq := hlq.trans hk2057
    refine d_go [3] [3] [] [] hX hS hlq rfl rfl trivial ?_
    refine d_op 5 rfl (by kernel_rfl) (by kernel_rfl) (fun X hX => ?_)
    have hlq := KM.le.refl K2056
    obtain ⟨x2059, hx2060, hf⟩ := bs hf
    refine s_call isf51 hS.nilG (bonsaiseat_at_spec hx2060) rfl rfl rfl ?_
    rintro _ K2061 C2063 w hk2062 rfl hS
    replace hS := hS.drop1
    replace hlq := hlq.trans hk2062
    refine d_go [3] [3] [] [] hX hS hlq rfl rfl trivial ?_
    refine d_op 6 rfl (by kernel_rfl) (by kernel_rfl) (fun X hX => ?_)
    have hlq := KM.le.refl K2061
    refine s_bwc (cs := ((vv77 x17) ++ ((vv77 x17) ++ ((vv77 x2049) ++ ((vv77 x2054) ++ ((vv77 x2059) ++ [])))))) hS rfl rfl rfl rfl rfl rfl rfl rfl rfl rfl ?_
    intro b2064 w hS
    refine d_go [4] [4] [] [] hX hS hlq rfl rfl trivial ?_
    refine d_op 7 rfl (by kernel_rfl) (by kernel_rfl) (fun X hX => ?_)
    have hlq := KM.le.refl K2061
    have h2066 : OwnS 77 K2061 (.slice (some ⟨b2064, 0, none⟩) 5 5) [x17, x17, x2049, x2054, x2059] [(b2064, Cl ((vv77 x17) ++ ((vv77 x17) ++ ((vv77 x2049) ++ ((vv77 x2054) ++ ((vv77 x2059) ++ []))))) 77)] := OwnS.lit ⟨(vv77 x17), _, rfl, rfl, ⟨(vv77 x17), _, rfl, rfl, ⟨(vv77 x2049), _, rfl, rfl, ⟨(vv77 x2054), _, rfl, rfl, ⟨(vv77 x2059), _, rfl, rfl, rfl⟩⟩⟩⟩⟩ rfl rfl
    obtain ⟨K2067, hk2068, h2069, hS⟩ := h2066.freeze (hS.sel [0, 1, 2, 3, 4, 5] rfl)
    replace hS : Sat w _ (flat [_, _, _, _, _]) := hS
    obtain ⟨x2070, hx2071, hf⟩ := bs hf
    have hkk25 := ((hk2052.trans hk2057).trans hk2062).trans hk2068
    replace h25 := h25.mono hkk25
    replace h30 := h30.mono hkk25
    refine s_call isf58 (Sat.shut3 hS) (bonsaiseat_builder_add_spec hx2071 h25 h30 h2069) rfl rfl rfl ?_
    rintro _ K2072 _ w hk2073 ⟨a2075, c2076, a2078, c2079, C2082, C2083, rfl, h2077, h2080, rfl⟩ hS
    replace hS := hS.open3
    replace hlq := hlq.trans (hk2068.trans hk2073)
    refine d_go [3] [3] [] [] hX hS hlq rfl rfl trivial ?_
    refine d_end (by kernel_rfl) ?_
    refine qbn ?_
    have hq := Option.some.inj hf
    subst hq
    refine s_fall0 rfl ?_
    have hkk26 := hkk25.trans hk2073
    replace hle := hle.trans hkk26
    exact ⟨K2072, _, hle, ⟨a2075, c2076, a2078, c2079, C2082, C2083, rfl, h2077, h2080, rfl⟩, Sat.shut3 (hS.sel [0, 1, 2, 4] rfl)⟩
  replace hf := bif_f hc hf
  refine s_seq (s_reg ?_)
  iterate 2 refine s_v rfl rfl rfl ?_
  refine s_nil (qn ?_)
  refine s_if rfl (fun hc => ?_) (fun hc => ?_)
  · replace hf := bif_t hc hf
    refine s_seq ?_
    refine d_start [3] [] hS ?_
    intro w hS
    refine d_v 0 (fun _ _ _ _ _ h => h) [3] hS rfl rfl rfl (by kernel_rfl) rfl rfl ?_
    refine d_ld (v := (.agg (vv77 x17).toArray)) 1 0 (fun _ _ _ _ _ h => h) [3] hS rfl rfl rfl rfl rfl (by kernel_rfl) rfl rfl ?_
    refine d_op 2 rfl (by kernel_rfl) (by kernel_rfl) (fun X hX => ?_)
    have hlq := KM.le.refl K24
    obtain ⟨x2113, hx2114, hf⟩ := bs hf
    refine s_call isf50 hS.nilG (bonsaiseat_one_spec hx2114) rfl rfl rfl ?_
    rintro _ K2115 C2117 w hk2116 rfl hS
    replace hS := hS.drop1
    replace hlq := hlq.trans hk2116
    refine d_go [3] [3] [] [] hX hS hlq rfl rfl trivial ?_
    refine d_op 3 rfl (by kernel_rfl) (by kernel_rfl) (fun X hX => ?_)
    have hlq := KM.le.refl K2115
    refine s_bwc (cs := ((vv77 x17) ++ ((vv77 x2113) ++ []))) hS rfl rfl rfl rfl rfl rfl rfl rfl rfl rfl ?_
    intro b2118 w hS
    refine d_go [4] [4] [] [] hX hS hlq rfl rfl trivial ?_
    refine d_op 4 rfl (by kernel_rfl) (by kernel_rfl) (fun X hX => ?_)
    have hlq := KM.le.refl K2115
    have h2120 : OwnS 77 K2115 (.slice (some ⟨b2118, 0, none⟩) 2 2) [x17, x2113] [(b2118, Cl ((vv77 x17) ++ ((vv77 x2113) ++ [])) 77)] := OwnS.lit ⟨(vv77 x17), _, rfl, rfl, ⟨(vv77 x2113), _, rfl, rfl, rfl⟩⟩ rfl rfl
    obtain ⟨K2121, hk2122, h2123, hS⟩ := h2120.freeze (hS.sel [0, 1, 2, 3, 4, 5] rfl)
    replace hS : Sat w _ (flat [_, _, _, _, _]) := hS
    obtain ⟨x2124, hx2125, hf⟩ := bs hf
    replace h25 := h25.mono (hk2116.trans hk2122)
    replace h30 := h30.mono (hk2116.trans hk2122)
    refine s_call isf58 (Sat.shut3 hS) (bonsaiseat_builder_add_spec hx2125 h25 h30 h2123) rfl rfl rfl ?_
    rintro _ K2126 _ w hk2127 ⟨a2129, c2130, a2132, c2133, C2136, C2137, rfl, h2131, h2134, rfl⟩ hS
    replace hS := hS.open3
    replace hlq := hlq.trans (hk2122.trans hk2127)
    refine d_go [3] [3] [] [] hX hS hlq rfl rfl trivial ?_
    refine d_end (by kernel_rfl) ?_
    refine qn ?_
    replace hS : Sat w K2126 (flat [_, _, _, _]) := (hS.sel [0, 1, 2, 4] rfl)
    refine s_reg ?_
    iterate 2 refine s_v rfl rfl rfl ?_
    obtain ⟨x2140, hx2141, hf⟩ := bs hf
    refine s_call isf68 (Sat.shut3 hS) (bonsaiseat_builder_try_spec hx2141 h2131 h2134) rfl rfl rfl ?_
    rintro _ K2142 _ w hk2143 ⟨a2145, c2146, a2148, c2149, C2152, C2153, rfl, h2147, h2150, rfl⟩ hS
    replace hS := hS.open3
    refine s_nil (qbn ?_)
    have hq := Option.some.inj hf
    subst hq
    refine s_fall0 rfl ?_
    have hkk27 := ((hk2116.trans hk2122).trans hk2127).trans hk2143
    replace hle := hle.trans hkk27
    exact ⟨K2142, _, hle, ⟨a2145, c2146, a2148, c2149, C2152, C2153, rfl, h2147, h2150, rfl⟩, Sat.shut3 hS⟩
  replace hf := bif_f hc hf
  refine s_seq (s_reg ?_)
  iterate 2 refine s_v rfl rfl rfl ?_
  refine s_nil (qn ?_)
  refine s_if rfl (fun hc => ?_) (fun hc => ?_)
  · replace hf := bif_t hc hf
    refine s_reg ?_
    refine s_v rfl rfl rfl ?_
    obtain ⟨x2156, hx2157, hf⟩ := bs hf
    refine s_call isf49 hS.nilG (bonsaiseat_of_spec hx2157) rfl rfl rfl ?_
    rintro _ K2158 C2160 w hk2159 rfl hS
    replace hS := hS.drop1
    obtain ⟨x2161, hx2162, hf⟩ := bs hf
    refine s_call isf50 hS.nilG (bonsaiseat_one_spec hx2162) rfl rfl rfl ?_
    rintro _ K2163 C2165 w hk2164 rfl hS
    replace hS := hS.drop1
    iterate 2 refine s_v rfl rfl rfl ?_
    obtain ⟨x2166, hx2167, hf⟩ := bs hf
    refine s_call isf59 hS.nilG (bonsaiseat_num_spec hx2167) rfl rfl rfl ?_
    rintro _ K2168 C2170 w hk2169 rfl hS
    replace hS := hS.drop1
    obtain ⟨x2171, hx2172, hf⟩ := bs hf
    refine s_call isf66 hS.nilG (bonsaiseat_part_spec hx2172) rfl rfl rfl ?_
    rintro _ K2173 C2175 w hk2174 rfl hS
    replace hS := hS.drop1
    obtain ⟨x2176, hx2177, hf⟩ := bs hf
    refine s_call isf65 hS.nilG (bonsaiseat_call_spec hx2177) rfl rfl rfl ?_
    rintro _ K2178 C2180 w hk2179 rfl hS
    replace hS := hS.drop1
    obtain ⟨x2181, hx2182, hf⟩ := bs hf
    refine s_call isf51 hS.nilG (bonsaiseat_at_spec hx2182) rfl rfl rfl ?_
    rintro _ K2183 C2185 w hk2184 rfl hS
    replace hS := hS.drop1
    refine s_bwc (cs := ((vv77 x2156) ++ ((vv77 x2161) ++ ((vv77 x2166) ++ ((vv77 x2171) ++ ((vv77 x2176) ++ ((vv77 x2181) ++ []))))))) hS rfl rfl rfl rfl rfl rfl rfl rfl rfl rfl ?_
    intro b2186 w hS
    have h2188 : OwnS 77 K2183 (.slice (some ⟨b2186, 0, none⟩) 6 6) [x2156, x2161, x2166, x2171, x2176, x2181] [(b2186, Cl ((vv77 x2156) ++ ((vv77 x2161) ++ ((vv77 x2166) ++ ((vv77 x2171) ++ ((vv77 x2176) ++ ((vv77 x2181) ++ [])))))) 77)] := OwnS.lit ⟨(vv77 x2156), _, rfl, rfl, ⟨(vv77 x2161), _, rfl, rfl, ⟨(vv77 x2166), _, rfl, rfl, ⟨(vv77 x2171), _, rfl, rfl, ⟨(vv77 x2176), _, rfl, rfl, ⟨(vv77 x2181), _, rfl, rfl, rfl⟩⟩⟩⟩⟩⟩ rfl rfl
    obtain ⟨K2189, hk2190, h2191, hS⟩ := h2188.freeze (hS.sel [0, 1, 2, 3, 4, 5] rfl)
    replace hS : Sat w _ (flat [_, _, _, _, _]) := hS
    obtain ⟨x2192, hx2193, hf⟩ := bs hf
    have hkk28 := (((((hk2159.trans hk2164).trans hk2169).trans hk2174).trans hk2179).trans hk2184).trans hk2190
    replace h25 := h25.mono hkk28
    replace h30 := h30.mono hkk28
    refine s_call isf58 (Sat.shut3 hS) (bonsaiseat_builder_add_spec hx2193 h25 h30 h2191) rfl rfl rfl ?_
    rintro _ K2194 _ w hk2195 ⟨a2197, c2198, a2200, c2201, C2204, C2205, rfl, h2199, h2202, rfl⟩ hS
    replace hS := hS.open3
    refine s_nil (qbn ?_)
    have hq := Option.some.inj hf
    subst hq
    refine s_fall0 rfl ?_
    have hkk29 := hkk28.trans hk2195
    replace hle := hle.trans hkk29
    exact ⟨K2194, _, hle, ⟨a2197, c2198, a2200, c2201, C2204, C2205, rfl, h2199, h2202, rfl⟩, Sat.shut3 (hS.sel [0, 1, 2, 4] rfl)⟩
  replace hf := bif_f hc hf
  refine s_seq (s_reg ?_)
  iterate 2 refine s_v rfl rfl rfl ?_
  refine s_nil (qn ?_)
  refine s_if rfl (fun hc => ?_) (fun hc => ?_)
  · replace hf := bif_t hc hf
    refine s_seq ?_
    refine d_start [3] [] hS ?_
    intro w hS
    refine d_v 0 (fun _ _ _ _ _ h => h) [3] hS rfl rfl rfl (by kernel_rfl) rfl rfl ?_
    refine d_ld (v := (.agg (vv77 x17).toArray)) 1 0 (fun _ _ _ _ _ h => h) [3] hS rfl rfl rfl rfl rfl (by kernel_rfl) rfl rfl ?_
    refine d_op 2 rfl (by kernel_rfl) (by kernel_rfl) (fun X hX => ?_)
    have hlq := KM.le.refl K24
    obtain ⟨x2240, hx2241, hf⟩ := bs hf
    refine s_call isf65 hS.nilG (bonsaiseat_call_spec hx2241) rfl rfl rfl ?_
    rintro _ K2242 C2244 w hk2243 rfl hS
    replace hS := hS.drop1
    replace hlq := hlq.trans hk2243
    refine d_go [3] [3] [] [] hX hS hlq rfl rfl trivial ?_
    refine d_op 3 rfl (by kernel_rfl) (by kernel_rfl) (fun X hX => ?_)
    have hlq := KM.le.refl K2242
    obtain ⟨x2245, hx2246, hf⟩ := bs hf
    refine s_call isf51 hS.nilG (bonsaiseat_at_spec hx2246) rfl rfl rfl ?_
    rintro _ K2247 C2249 w hk2248 rfl hS
    replace hS := hS.drop1
    replace hlq := hlq.trans hk2248
    refine d_go [3] [3] [] [] hX hS hlq rfl rfl trivial ?_
    refine d_op 4 rfl (by kernel_rfl) (by kernel_rfl) (fun X hX => ?_)
    have hlq := KM.le.refl K2247
    refine s_bwc (cs := ((vv77 x17) ++ ((vv77 x2240) ++ ((vv77 x2245) ++ [])))) hS rfl rfl rfl rfl rfl rfl rfl rfl rfl rfl ?_
    intro b2250 w hS
    refine d_go [4] [4] [] [] hX hS hlq rfl rfl trivial ?_
    refine d_op 5 rfl (by kernel_rfl) (by kernel_rfl) (fun X hX => ?_)
    have hlq := KM.le.refl K2247
    have h2252 : OwnS 77 K2247 (.slice (some ⟨b2250, 0, none⟩) 3 3) [x17, x2240, x2245] [(b2250, Cl ((vv77 x17) ++ ((vv77 x2240) ++ ((vv77 x2245) ++ []))) 77)] := OwnS.lit ⟨(vv77 x17), _, rfl, rfl, ⟨(vv77 x2240), _, rfl, rfl, ⟨(vv77 x2245), _, rfl, rfl, rfl⟩⟩⟩ rfl rfl
    obtain ⟨K2253, hk2254, h2255, hS⟩ := h2252.freeze (hS.sel [0, 1, 2, 3, 4, 5] rfl)
    replace hS : Sat w _ (flat [_, _, _, _, _]) := hS
    obtain ⟨x2256, hx2257, hf⟩ := bs hf
    replace h25 := h25.mono ((hk2243.trans hk2248).trans hk2254)
    replace h30 := h30.mono ((hk2243.trans hk2248).trans hk2254)
    refine s_call isf58 (Sat.shut3 hS) (bonsaiseat_builder_add_spec hx2257 h25 h30 h2255) rfl rfl rfl ?_
    rintro _ K2258 _ w hk2259 ⟨a2261, c2262, a2264, c2265, C2268, C2269, rfl, h2263, h2266, rfl⟩ hS
    replace hS := hS.open3
    replace hlq := hlq.trans (hk2254.trans hk2259)
    refine d_go [3] [3] [] [] hX hS hlq rfl rfl trivial ?_
    refine d_end (by kernel_rfl) ?_
    refine qn ?_
    replace hS : Sat w K2258 (flat [_, _, _, _]) := (hS.sel [0, 1, 2, 4] rfl)
    refine d_start [] [(7, [0]), (7, [1])] hS ?_
    intro w hS
    refine d_v 0 (fun _ _ _ _ _ h => h) [] hS rfl rfl rfl (by kernel_rfl) rfl rfl ?_
    refine d_v 1 (fun _ _ _ _ _ h => h) [] hS rfl rfl rfl (by kernel_rfl) rfl rfl ?_
    refine d_v 2 (fun _ _ _ _ _ h => h) [] hS rfl rfl rfl (by kernel_rfl) rfl rfl ?_
    refine d_ldh 3 0 (fun _ _ _ _ _ h => h) [] hS rfl rfl rfl (by kernel_rfl) rfl rfl (by kernel_rfl) rfl rfl ?_
    refine d_v 4 (fun _ _ _ _ _ h => h) [] hS rfl rfl rfl (by kernel_rfl) rfl rfl ?_
    refine d_op 5 rfl (by kernel_rfl) (by kernel_rfl) (fun X hX => ?_)
    have hlq := KM.le.refl K2258
    obtain ⟨x2288, hx2289, hf⟩ := bs hf
    refine s_call isf51 hS.nilG (bonsaiseat_at_spec hx2289) rfl rfl rfl ?_
    rintro _ K2290 C2292 w hk2291 rfl hS
    replace hS := hS.drop1
    replace hlq := hlq.trans hk2291
    refine d_go [] [] [(7, [0]), (7, [1])] [some 0, some 1] hX hS hlq rfl rfl ⟨rfl, rfl, trivial⟩ ?_
    obtain ⟨x2293, hx2294, hf⟩ := bs hf
    replace h2263 := h2263.mono hk2291
    refine d_ixo 6 1 (fun _ _ _ _ _ h => h) [] hS rfl h2263 hx2294 rfl rfl rfl rfl rfl rfl rfl (by kernel_rfl) rfl rfl ?_
    intro b2295 l2296 cs2299 l2297 hcs_ hC2300 hun2298
    obtain rfl := hcs_
    subst hC2300
    have hq2301 := KM.le.refl K2290
    refine d_op 7 rfl (by kernel_rfl) (by kernel_rfl) (fun X hX => ?_)
    have hlq := KM.le.refl K2290
    refine s_stm (cs' := (vv77 x2288)) 1 0 hS rfl rfl rfl rfl rfl ?_
    intro w hS
    replace hS : Sat w _ (flat [_, _, _, _]) := hS
    have h2302 := hun2298 K2290 _ _ hq2301 (show GoData.cells 77 _ x2288 _ from rfl)
    have hl2303 := OwnS.len h2302
    refine d_go [] [0, 1] [] [none, none] hX hS hlq rfl rfl ⟨rfl, rfl, trivial⟩ ?_
    refine d_end (by kernel_rfl) ?_
    refine qbn ?_
    have h2304 := OwnS.norm h2302
    replace hS : Sat w K2290 (flat [[(b2, Cl [(.slice a2261 ((x2256.l_.set ((p1.l_.length : Int) : Int).toNat x2288).length) c2262), (.slice a2264 x2256.h_.length c2265)] 127)], [(b2295, Cl (l2296 ++ (((vv77 x2288) : List Value) ++ l2297)) 77)], C2269, L]) := by rw [hl2303]; exact hS
    have hq := Option.some.inj hf
    subst hq
    refine s_fall0 rfl ?_
    have hkk30 := (((hk2243.trans hk2248).trans hk2254).trans hk2259).trans hk2291
    replace hle := hle.trans hkk30
    replace h2266 := h2266.mono hk2291
    exact ⟨K2290, _, hle, ⟨a2261, c2262, a2264, c2265, [(b2295, Cl (l2296 ++ (((vv77 x2288) : List Value) ++ l2297)) 77)], C2269, rfl, h2304, h2266, rfl⟩, Sat.shut3 hS⟩
  replace hf := bif_f hc hf
  refine s_seq (s_reg ?_)
  iterate 2 refine s_v rfl rfl rfl ?_
  refine s_nil (qn ?_)
  replace hS : Sat w K24 (flat [_, _, _, _]) := (hS.sel [0, 1, 2, 4] rfl)
  refine s_if rfl (fun hc => ?_) (fun hc => ?_)
  · replace hf := bif_t hc hf
    refine s_seq (s_reg ?_)
    refine s_v rfl rfl rfl ?_
    refine s_bwc (cs := [(.string (⟨#[69, 114, 114]⟩ : ByteArray)), (.string (⟨#[69, 114, 114, 50]⟩ : ByteArray)), (.string (⟨#[66, 111, 117, 110, 100, 115, 70, 97, 117, 108, 116]⟩ : ByteArray))]) hS rfl rfl rfl rfl rfl rfl rfl rfl rfl rfl ?_
    intro b2305 w hS
    iterate 2 refine s_v rfl rfl rfl ?_
    have h2307 : OwnS 9 K24 (.slice (some ⟨b2305, 0, none⟩) 3 3) ([(⟨#[69, 114, 114]⟩ : ByteArray), (⟨#[69, 114, 114, 50]⟩ : ByteArray), (⟨#[66, 111, 117, 110, 100, 115, 70, 97, 117, 108, 116]⟩ : ByteArray)] : List ByteArray) [(b2305, Cl [(.string (⟨#[69, 114, 114]⟩ : ByteArray)), (.string (⟨#[69, 114, 114, 50]⟩ : ByteArray)), (.string (⟨#[66, 111, 117, 110, 100, 115, 70, 97, 117, 108, 116]⟩ : ByteArray))] 9)] := OwnS.lit ⟨[(.string (⟨#[69, 114, 114]⟩ : ByteArray))], _, rfl, rfl, ⟨[(.string (⟨#[69, 114, 114, 50]⟩ : ByteArray))], _, rfl, rfl, ⟨[(.string (⟨#[66, 111, 117, 110, 100, 115, 70, 97, 117, 108, 116]⟩ : ByteArray))], _, rfl, rfl, rfl⟩⟩⟩ rfl rfl
    generalize hCg_ : ([(b2305, Cl [(.string (⟨#[69, 114, 114]⟩ : ByteArray)), (.string (⟨#[69, 114, 114, 50]⟩ : ByteArray)), (.string (⟨#[66, 111, 117, 110, 100, 115, 70, 97, 117, 108, 116]⟩ : ByteArray))] 9)] : Chunks) = C2308 at hS h2307
    clear hCg_
    obtain ⟨x2309, hx2310, hf⟩ := bs hf
    refine s_ixo 0 hS rfl h2307 hx2310 rfl rfl rfl rfl rfl rfl rfl ?_
    intro b2311 l2312 cs2315 l2313 hcs_ hC2316 hun2314
    obtain rfl := hcs_
    subst hC2316
    have hq2317 := KM.le.refl K24
    refine s_ldm 0 0 hS rfl rfl rfl rfl rfl ?_
    obtain ⟨x2318, hx2319, hf⟩ := bs hf
    refine s_call isf49 hS.nilG (bonsaiseat_of_spec hx2319) rfl rfl rfl ?_
    rintro _ K2320 C2322 w hk2321 rfl hS
    replace hS := hS.drop1
    obtain ⟨x2323, hx2324, hf⟩ := bs hf
    refine s_call isf50 hS.nilG (bonsaiseat_one_spec hx2324) rfl rfl rfl ?_
    rintro _ K2325 C2327 w hk2326 rfl hS
    replace hS := hS.drop1
    refine s_bwc (cs := ((vv77 x2318) ++ ((vv77 x2323) ++ []))) hS rfl rfl rfl rfl rfl rfl rfl rfl rfl rfl ?_
    intro b2328 w hS
    have h2330 : OwnS 77 K2325 (.slice (some ⟨b2328, 0, none⟩) 2 2) [x2318, x2323] [(b2328, Cl ((vv77 x2318) ++ ((vv77 x2323) ++ [])) 77)] := OwnS.lit ⟨(vv77 x2318), _, rfl, rfl, ⟨(vv77 x2323), _, rfl, rfl, rfl⟩⟩ rfl rfl
    obtain ⟨K2331, hk2332, h2333, hS⟩ := h2330.freeze (hS.sel [0, 1, 2, 3, 4, 5] rfl)
    replace hS : Sat w _ (flat [_, _, _, _, _]) := hS
    obtain ⟨x2334, hx2335, hf⟩ := bs hf
    replace h25 := h25.mono ((hk2321.trans hk2326).trans hk2332)
    replace h30 := h30.mono ((hk2321.trans hk2326).trans hk2332)
    refine s_call isf58 (Sat.shut3 (hS.sel [1, 2, 3, 0, 4] rfl)) (bonsaiseat_builder_add_spec hx2335 h25 h30 h2333) rfl rfl rfl ?_
    rintro _ K2336 _ w hk2337 ⟨a2339, c2340, a2342, c2343, C2346, C2347, rfl, h2341, h2344, rfl⟩ hS
    replace hS := hS.open3
    refine s_nil (qn ?_)
    replace hS : Sat w K2336 (flat [_, _, _, _]) := (hS.sel [0, 1, 2, 4] rfl)
    refine s_reg ?_
    iterate 2 refine s_v rfl rfl rfl ?_
    refine s_bwc (cs := [(.string (⟨#[69, 114, 114]⟩ : ByteArray)), (.string (⟨#[70, 97, 117, 108, 116]⟩ : ByteArray))]) hS rfl rfl rfl rfl rfl rfl rfl rfl rfl rfl ?_
    intro b2350 w hS
    iterate 2 refine s_v rfl rfl rfl ?_
    have h2352 : OwnS 9 K2336 (.slice (some ⟨b2350, 0, none⟩) 2 2) ([(⟨#[69, 114, 114]⟩ : ByteArray), (⟨#[70, 97, 117, 108, 116]⟩ : ByteArray)] : List ByteArray) [(b2350, Cl [(.string (⟨#[69, 114, 114]⟩ : ByteArray)), (.string (⟨#[70, 97, 117, 108, 116]⟩ : ByteArray))] 9)] := OwnS.lit ⟨[(.string (⟨#[69, 114, 114]⟩ : ByteArray))], _, rfl, rfl, ⟨[(.string (⟨#[70, 97, 117, 108, 116]⟩ : ByteArray))], _, rfl, rfl, rfl⟩⟩ rfl rfl
    generalize hCg_ : ([(b2350, Cl [(.string (⟨#[69, 114, 114]⟩ : ByteArray)), (.string (⟨#[70, 97, 117, 108, 116]⟩ : ByteArray))] 9)] : Chunks) = C2353 at hS h2352
    clear hCg_
    obtain ⟨x2354, hx2355, hf⟩ := bs hf
    refine s_ixo 0 hS rfl h2352 hx2355 rfl rfl rfl rfl rfl rfl rfl ?_
    intro b2356 l2357 cs2360 l2358 hcs_ hC2361 hun2359
    obtain rfl := hcs_
    subst hC2361
    have hq2362 := KM.le.refl K2336
    refine s_ldm 0 0 hS rfl rfl rfl rfl rfl ?_
    obtain ⟨x2363, hx2364, hf⟩ := bs hf
    refine s_call isf68 (Sat.shut3 (hS.sel [1, 2, 3, 0, 4] rfl)) (bonsaiseat_builder_try_spec hx2364 h2341 h2344) rfl rfl rfl ?_
    rintro _ K2365 _ w hk2366 ⟨a2368, c2369, a2371, c2372, C2375, C2376, rfl, h2370, h2373, rfl⟩ hS
    replace hS := hS.open3
    refine s_nil (qbn ?_)
    have hq := Option.some.inj hf
    subst hq
    refine s_fall0 rfl ?_
    have hkk31 := (((hk2321.trans hk2326).trans hk2332).trans hk2337).trans hk2366
    replace hle := hle.trans hkk31
    exact ⟨K2365, _, hle, ⟨a2368, c2369, a2371, c2372, C2375, C2376, rfl, h2370, h2373, rfl⟩, Sat.shut3 (hS.sel [0, 1, 2, 4] rfl)⟩
  replace hf := bif_f hc hf
  refine s_reg ?_
  refine s_v rfl rfl rfl ?_
  obtain ⟨x2379, hx2380, hf⟩ := bs hf
  refine s_call isf65 hS.nilG (bonsaiseat_call_spec hx2380) rfl rfl rfl ?_
  rintro _ K2381 C2383 w hk2382 rfl hS
  replace hS := hS.drop1
  refine s_bwc (cs := (vv77 x2379)) hS rfl rfl rfl rfl rfl rfl rfl rfl rfl rfl ?_
  intro b2384 w hS
  have h2386 : OwnS 77 K2381 (.slice (some ⟨b2384, 0, none⟩) 1 1) [x2379] [(b2384, Cl (vv77 x2379) 77)] := OwnS.lit ⟨(vv77 x2379), _, rfl, rfl, rfl⟩ rfl rfl
  obtain ⟨K2387, hk2388, h2389, hS⟩ := h2386.freeze (hS.sel [0, 1, 2, 3, 4] rfl)
  replace hS : Sat w _ (flat [_, _, _, _]) := hS
  obtain ⟨x2390, hx2391, hf⟩ := bs hf
  replace h25 := h25.mono (hk2382.trans hk2388)
  replace h30 := h30.mono (hk2382.trans hk2388)
  refine s_call isf58 (Sat.shut3 hS) (bonsaiseat_builder_add_spec hx2391 h25 h30 h2389) rfl rfl rfl ?_
  rintro _ K2392 _ w hk2393 ⟨a2395, c2396, a2398, c2399, C2402, C2403, rfl, h2397, h2400, rfl⟩ hS
  replace hS := hS.open3
  refine s_nil (qbn ?_)
  have hq := Option.some.inj hf
  subst hq
  refine s_fall0 rfl ?_
  replace hle := hle.trans ((hk2382.trans hk2388).trans hk2393)
  exact ⟨K2392, _, hle, ⟨a2395, c2396, a2398, c2399, C2402, C2403, rfl, h2397, h2400, rfl⟩, Sat.shut3 hS⟩
-- 45 bonsai/bonsaiseat.Body
def bonsaiseat_Body.l0 (fu : Nat) (p1 : (List Int)) : Nat → (List api_Instr) → (List api_Handler) → Int → Option ((List api_Instr) × (List api_Handler))
  | 0, _, _, _ => none
  | k + 1, v1845, v1846, v1847 => (bif decide ((w64 (v1847 + 1)) < (p1.length : Int)) then (some (decide (v1847 < 40))) else (some false)).bind fun s1860 => bif s1860 then ((((idx p1 v1847).bind fun x2087 => (idx p1 (w64 (v1847 + 1))).bind fun x2092 => (bonsaiseat_builder_numbers.fn (bonsaiseat_builder.mk v1845 v1846) (Int.tmod x2087 40) x2092).bind fun x2097 => bif !x2097.1 then ((idx p1 (w64 (v1847 + 1))).bind fun x2113 => (bonsaiseat_builder_objects.fn x2097.2 (Int.tmod x2087 40) x2113).bind fun x2118 => some (x2118.l_, x2118.h_)) else (some (x2097.2.l_, x2097.2.h_))).bind fun s2085 => (idx p1 v1847).bind fun x2134 => bif x2134 == 255 then ((idx p1 (w64 (v1847 + 1))).bind fun x2139 => (bonsaiseat_num.fn (w64 x2139)).bind fun x2144 => (bonsaiseat_one.fn 43).bind fun x2149 => (bonsaiseat_builder_add.fn (bonsaiseat_builder.mk s2085.1 s2085.2) [x2144, x2149]).bind fun x2160 => some (x2160.l_, x2160.h_)) else (some (s2085.1, s2085.2))).bind fun s2024 => bonsaiseat_Body.l0 fu p1 k s2024.1 s2024.2 (w64 (v1847 + 2))) else (some (v1845, v1846))
def bonsaiseat_Body.fn (fu : Nat) (p1 : (List Int)) : Option ((List api_Instr) × (List api_Handler)) := (bonsaiseat_num.fn 1).bind fun x8 => (bonsaiseat_at.fn 5 0).bind fun x13 => (bonsaiseat_str.fn (⟨#[115]⟩ : ByteArray)).bind fun x18 => (bonsaiseat_at.fn 5 1).bind fun x23 => (bonsaiseat_num.fn 3).bind fun x28 => (bonsaiseat_one.fn 21).bind fun x33 => (bonsaiseat_at.fn 5 2).bind fun x38 => (bonsaiseat_of.fn 25 (⟨#[65]⟩ : ByteArray)).bind fun x43 => (bonsaiseat_at.fn 5 3).bind fun x48 => (bonsaiseat_one.fn 3).bind fun x53 => (bonsaiseat_at.fn 5 4).bind fun x58 => (bonsaiseat_builder_add.fn (bonsaiseat_builder.mk ([] : List api_Instr) ([] : List api_Handler)) [x8, x13, x18, x23, x28, x33, x38, x43, x48, x53, x58]).bind fun x71 => (bonsaiseat_Body.l0 fu p1 fu x71.l_ x71.h_ 0).bind fun s1136 => (bonsaiseat_one.fn 40).bind fun x2176 => (bonsaiseat_builder_add.fn (bonsaiseat_builder.mk s1136.1 s1136.2) [x2176]).bind fun x2187 => some (x2187.l_, x2187.h_)
theorem bonsaiseat_Body_spec {K : KM} {fu : Nat} {p1 : (List Int)} {r : ((List api_Instr) × (List api_Handler))} {a2 : Option Addr} {c3 : Nat} (hf : bonsaiseat_Body.fn fu p1 = some r) (h4 : SlK 5 K a2 c3 p1) : Sp Try.prog 45 [(.slice a2 p1.length c3)] K [] (fun K' C v => ∃ (a2209 : Option Addr) (c2210 : Nat) (a2212 : Option Addr) (c2213 : Nat), v = (.tuple #[(.slice a2209 r.1.length c2210), (.slice a2212 r.2.length c2213)]) ∧ SlK 77 K' a2209 c2210 r.1 ∧ SlK 92 K' a2212 c2213 r.2) := by
  unfold bonsaiseat_Body.fn at hf
  refine spec_enter isf45 rfl ?_
  intro w L hS
  replace hS : Sat w K (flat [L]) := hS
  have hle := KM.le.refl K
  unfold bod45 Try.f45
  dsimp only [Option.getD_some, argSlots]
  refine s_seq (s_reg ?_)
  iterate 2 refine s_v rfl rfl rfl ?_
  refine s_nil (qn (s_seq (s_reg ?_)))
  refine s_v (v := (.agg #[(.slice none 0 0), (.slice none 0 0)])) rfl rfl rfl ?_
  refine s_bx hS rfl rfl rfl ?_
  intro b6 w hS
  replace hS : Sat w K (flat ([(b6, Cl [(.slice none 0 0), (.slice none 0 0)] 127)] :: _)) := hS
  refine s_v rfl rfl rfl ?_
  refine s_nil (qn (s_seq (s_reg ?_)))
  refine s_v rfl rfl rfl ?_
  obtain ⟨x8, hx9, hf⟩ := bs hf
  refine s_call isf59 hS.nilG (bonsaiseat_num_spec hx9) rfl rfl rfl ?_
  rintro _ K10 C12 w hk11 rfl hS
  replace hS := hS.drop1
  obtain ⟨x13, hx14, hf⟩ := bs hf
  refine s_call isf51 hS.nilG (bonsaiseat_at_spec hx14) rfl rfl rfl ?_
  rintro _ K15 C17 w hk16 rfl hS
  replace hS := hS.drop1
  obtain ⟨x18, hx19, hf⟩ := bs hf
  refine s_call isf60 hS.nilG (bonsaiseat_str_spec hx19) rfl rfl rfl ?_
  rintro _ K20 C22 w hk21 rfl hS
  replace hS := hS.drop1
  obtain ⟨x23, hx24, hf⟩ := bs hf
  refine s_call isf51 hS.nilG (bonsaiseat_at_spec hx24) rfl rfl rfl ?_
  rintro _ K25 C27 w hk26 rfl hS
  replace hS := hS.drop1
  obtain ⟨x28, hx29, hf⟩ := bs hf
  refine s_call isf59 hS.nilG (bonsaiseat_num_spec hx29) rfl rfl rfl ?_
  rintro _ K30 C32 w hk31 rfl hS
  replace hS := hS.drop1
  obtain ⟨x33, hx34, hf⟩ := bs hf
  refine s_call isf50 hS.nilG (bonsaiseat_one_spec hx34) rfl rfl rfl ?_
  rintro _ K35 C37 w hk36 rfl hS
  replace hS := hS.drop1
  obtain ⟨x38, hx39, hf⟩ := bs hf
  refine s_call isf51 hS.nilG (bonsaiseat_at_spec hx39) rfl rfl rfl ?_
  rintro _ K40 C42 w hk41 rfl hS
  replace hS := hS.drop1
  obtain ⟨x43, hx44, hf⟩ := bs hf
  refine s_call isf49 hS.nilG (bonsaiseat_of_spec hx44) rfl rfl rfl ?_
  rintro _ K45 C47 w hk46 rfl hS
  replace hS := hS.drop1
  obtain ⟨x48, hx49, hf⟩ := bs hf
  refine s_call isf51 hS.nilG (bonsaiseat_at_spec hx49) rfl rfl rfl ?_
  rintro _ K50 C52 w hk51 rfl hS
  replace hS := hS.drop1
  obtain ⟨x53, hx54, hf⟩ := bs hf
  refine s_call isf50 hS.nilG (bonsaiseat_one_spec hx54) rfl rfl rfl ?_
  rintro _ K55 C57 w hk56 rfl hS
  replace hS := hS.drop1
  obtain ⟨x58, hx59, hf⟩ := bs hf
  refine s_call isf51 hS.nilG (bonsaiseat_at_spec hx59) rfl rfl rfl ?_
  rintro _ K60 C62 w hk61 rfl hS
  replace hS := hS.drop1
  refine s_bwc (cs := ((vv77 x8) ++ ((vv77 x13) ++ ((vv77 x18) ++ ((vv77 x23) ++ ((vv77 x28) ++ ((vv77 x33) ++ ((vv77 x38) ++ ((vv77 x43) ++ ((vv77 x48) ++ ((vv77 x53) ++ ((vv77 x58) ++ [])))))))))))) hS rfl rfl rfl rfl rfl rfl rfl rfl rfl rfl ?_
  intro b63 w hS
  replace hS := hS.nilG
  replace hS := hS.nilG
  have h67 : OwnS 77 K60 (.slice (some ⟨b63, 0, none⟩) 11 11) [x8, x13, x18, x23, x28, x33, x38, x43, x48, x53, x58] [(b63, Cl ((vv77 x8) ++ ((vv77 x13) ++ ((vv77 x18) ++ ((vv77 x23) ++ ((vv77 x28) ++ ((vv77 x33) ++ ((vv77 x38) ++ ((vv77 x43) ++ ((vv77 x48) ++ ((vv77 x53) ++ ((vv77 x58) ++ []))))))))))) 77)] := OwnS.lit ⟨(vv77 x8), _, rfl, rfl, ⟨(vv77 x13), _, rfl, rfl, ⟨(vv77 x18), _, rfl, rfl, ⟨(vv77 x23), _, rfl, rfl, ⟨(vv77 x28), _, rfl, rfl, ⟨(vv77 x33), _, rfl, rfl, ⟨(vv77 x38), _, rfl, rfl, ⟨(vv77 x43), _, rfl, rfl, ⟨(vv77 x48), _, rfl, rfl, ⟨(vv77 x53), _, rfl, rfl, ⟨(vv77 x58), _, rfl, rfl, rfl⟩⟩⟩⟩⟩⟩⟩⟩⟩⟩⟩ rfl rfl
  obtain ⟨K68, hk69, h70, hS⟩ := h67.freeze (hS.sel [2, 0, 1, 3, 4] rfl)
  replace hS : Sat w _ (flat [_, _, _, _]) := hS
  obtain ⟨x71, hx72, hf⟩ := bs hf
  refine s_call isf58 (Sat.shut3 (hS.sel [2, 1, 0, 3] rfl)) (bonsaiseat_builder_add_spec hx72 OwnS.nil OwnS.nil h70) rfl rfl rfl ?_
  rintro _ K73 _ w hk74 ⟨a76, c77, a79, c80, C83, C84, rfl, h78, h81, rfl⟩ hS
  replace hS := hS.open3
  refine s_nil (qn ?_)
  obtain ⟨s1136, hst1137, hf⟩ := bs hf
  have hkk0 := (((((((((((hk11.trans hk16).trans hk21).trans hk26).trans hk31).trans hk36).trans hk41).trans hk46).trans hk51).trans hk56).trans hk61).trans hk69).trans hk74
  refine s_cut (fun τ w => ∃ (K1125 : KM) (a1127 : Option Addr) (c1128 : Nat) (C1129 : Chunks) (a1132 : Option Addr) (c1133 : Nat) (C1134 : Chunks), τ = [(4, (.pointer (some ⟨b6, 0, none⟩)))] ∧ KM.le K K1125 ∧ OwnS 77 K1125 (.slice a1127 s1136.1.length c1128) s1136.1 C1129 ∧ OwnS 92 K1125 (.slice a1132 s1136.2.length c1133) s1136.2 C1134 ∧ Sat w K1125 (flat [[(b6, Cl [(.slice a1127 s1136.1.length c1128), (.slice a1132 s1136.2.length c1133)] 127)], C1129, C1134, L])) (fun J hJ => ?_) ?_
  · replace hf := hst1137
    refine s_seq (s_reg ?_)
    refine s_v rfl rfl rfl ?_
    refine s_nil (qn (s_block ?_))
    replace h4 := h4.mono hkk0
    replace hle := hle.trans hkk0
    refine s_loopp (fun n τ w => ∃ (v1845 : (List api_Instr)) (v1846 : (List api_Handler)) (v1847 : Int) (K1833 : KM) (a1836 : Option Addr) (c1837 : Nat) (C1838 : Chunks) (a1841 : Option Addr) (c1842 : Nat) (C1843 : Chunks), bonsaiseat_Body.l0 fu p1 n v1845 v1846 v1847 = some s1136 ∧ τ = [(0, (.slice a2 p1.length c3)), (4, (.pointer (some ⟨b6, 0, none⟩))), (5, (.int .i64 v1847))] ∧ KM.le K K1833 ∧ SlK 5 K1833 a2 c3 p1 ∧ OwnS 77 K1833 (.slice a1836 v1845.length c1837) v1845 C1838 ∧ OwnS 92 K1833 (.slice a1841 v1846.length c1842) v1846 C1843 ∧ Sat w K1833 (flat [[(b6, Cl [(.slice a1836 v1845.length c1837), (.slice a1841 v1846.length c1842)] 127)], C1838, C1843, L])) _ ⟨x71.l_, x71.h_, 0, K73, a76, c77, C83, a79, c80, C84, hf, rfl, hle, h4, h78, h81, hS⟩ ⟨rfl, rfl, rfl, trivial⟩ ?_ ?_
    · rintro _ _ ⟨_, _, _, _, _, _, _, _, _, _, hf, _⟩
      exact absurd hf (by simp [bonsaiseat_Body.l0])
    rintro n _ w Y hY ⟨v1845, v1846, v1847, K1833, a1836, c1837, C1838, a1841, c1842, C1843, hf, rfl, hle, h1834, h1835, h1840, hS⟩
    rw [bonsaiseat_Body.l0] at hf
    refine s_seq (s_seq (s_reg ?_))
    iterate 6 refine s_v rfl rfl rfl ?_
    obtain ⟨s1860, hst1861, hf⟩ := bs hf
    refine r_cut [_, _, _] (fun τ w => ∃ (K1848 : KM) (C1853 : Chunks) (C1858 : Chunks), τ = [(0, (.slice a2 p1.length c3)), (4, (.pointer (some ⟨b6, 0, none⟩))), (5, (.int .i64 v1847)), (31, (.bool s1860))] ∧ KM.le K K1848 ∧ SlK 5 K1848 a2 c3 p1 ∧ OwnS 77 K1848 (.slice a1836 v1845.length c1837) v1845 C1853 ∧ OwnS 92 K1848 (.slice a1841 v1846.length c1842) v1846 C1858 ∧ Sat w K1848 (flat [[(b6, Cl [(.slice a1836 v1845.length c1837), (.slice a1841 v1846.length c1842)] 127)], C1853, C1858, L])) rfl (fun J hJ => ?_) ?_
    · replace hf := hst1861
      cases hc : (decide ((w64 (v1847 + 1)) < (p1.length : Int)))
      · replace hf := bif_f hc hf
        refine s_no rfl rfl ?_
        refine s_no rfl rfl ?_
        refine s_v rfl rfl rfl ?_
        have hq := Option.some.inj hf
        subst hq
        refine r_join hJ _ ⟨K1833, C1838, C1843, rfl, hle, h1834, h1835, h1840, hS⟩ ⟨rfl, rfl, rfl, rfl, trivial⟩
      replace hf := bif_t hc hf
      iterate 3 refine s_v rfl rfl rfl ?_
      have hq := Option.some.inj hf
      subst hq
      refine r_join hJ _ ⟨K1833, C1838, C1843, rfl, hle, h1834, h1835, h1840, hS⟩ ⟨rfl, rfl, rfl, rfl, trivial⟩
    rintro _ w ⟨K1848, C1853, C1858, rfl, hle, h1849, h1850, h1855, hS⟩
    refine s_nil (qn ?_)
    refine s_if rfl (fun hc => ?_) (fun hc => ?_)
    · replace hf := bif_t hc hf
      refine s_skip (qn ?_)
      obtain ⟨s2024, hst2025, hf⟩ := bs hf
      refine s_cut (fun τ w => ∃ (K2012 : KM) (a2015 : Option Addr) (c2016 : Nat) (C2017 : Chunks) (a2020 : Option Addr) (c2021 : Nat) (C2022 : Chunks), τ = [(0, (.slice a2 p1.length c3)), (4, (.pointer (some ⟨b6, 0, none⟩))), (5, (.int .i64 v1847))] ∧ KM.le K K2012 ∧ SlK 5 K2012 a2 c3 p1 ∧ OwnS 77 K2012 (.slice a2015 s2024.1.length c2016) s2024.1 C2017 ∧ OwnS 92 K2012 (.slice a2020 s2024.2.length c2021) s2024.2 C2022 ∧ Sat w K2012 (flat [[(b6, Cl [(.slice a2015 s2024.1.length c2016), (.slice a2020 s2024.2.length c2021)] 127)], C2017, C2022, L])) (fun J hJ => ?_) ?_
      · replace hf := hst2025
        refine s_block ?_
        obtain ⟨s2085, hst2086, hf⟩ := bs hf
        refine s_cut (fun τ w => ∃ (K2073 : KM) (a2076 : Option Addr) (c2077 : Nat) (C2078 : Chunks) (a2081 : Option Addr) (c2082 : Nat) (C2083 : Chunks), τ = [(0, (.slice a2 p1.length c3)), (4, (.pointer (some ⟨b6, 0, none⟩))), (5, (.int .i64 v1847))] ∧ KM.le K K2073 ∧ SlK 5 K2073 a2 c3 p1 ∧ OwnS 77 K2073 (.slice a2076 s2085.1.length c2077) s2085.1 C2078 ∧ OwnS 92 K2073 (.slice a2081 s2085.2.length c2082) s2085.2 C2083 ∧ Sat w K2073 (flat [[(b6, Cl [(.slice a2076 s2085.1.length c2077), (.slice a2081 s2085.2.length c2082)] 127)], C2078, C2083, L])) (fun J hJ => ?_) ?_
        · replace hf := hst2086
          refine s_seq (s_reg ?_)
          iterate 2 refine s_v rfl rfl rfl ?_
          obtain ⟨x2087, hx2088, hf⟩ := bs hf
          refine s_ixk h1849 rfl hx2088 rfl rfl rfl rfl rfl rfl rfl ?_
          rintro b2089 o2090 _ rfl h2091
          refine s_ldk 0 hS h2091 rfl rfl rfl rfl ?_
          iterate 2 refine s_v rfl rfl rfl ?_
          refine s_nil (qn (s_seq (s_reg ?_)))
          iterate 5 refine s_v rfl rfl rfl ?_
          obtain ⟨x2092, hx2093, hf⟩ := bs hf
          refine s_ixk h1849 rfl hx2093 rfl rfl rfl rfl rfl rfl rfl ?_
          rintro b2094 o2095 _ rfl h2096
          refine s_ldk 0 hS h2096 rfl rfl rfl rfl ?_
          obtain ⟨x2097, hx2098, hf⟩ := bs hf
          refine s_call isf61 (Sat.shut3 hS) (bonsaiseat_builder_numbers_spec hx2098 h1850 h1855) rfl rfl rfl ?_
          rintro _ K2099 _ w hk2100 ⟨a2102, c2103, a2105, c2106, C2109, C2110, rfl, h2104, h2107, rfl⟩ hS
          replace hS := hS.open3
          refine s_v rfl rfl rfl ?_
          refine s_nil (qn ?_)
          refine s_if rfl (fun hc => ?_) (fun hc => ?_)
          · replace hf := bif_t hc hf
            refine s_reg ?_
            iterate 5 refine s_v rfl rfl rfl ?_
            obtain ⟨x2113, hx2114, hf⟩ := bs hf
            replace h1849 := h1849.mono hk2100
            refine s_ixk h1849 rfl hx2114 rfl rfl rfl rfl rfl rfl rfl ?_
            rintro b2115 o2116 _ rfl h2117
            refine s_ldk 0 hS h2117 rfl rfl rfl rfl ?_
            obtain ⟨x2118, hx2119, hf⟩ := bs hf
            refine s_call isf62 (Sat.shut3 hS) (bonsaiseat_builder_objects_spec hx2119 h2104 h2107) rfl rfl rfl ?_
            rintro _ K2120 _ w hk2121 ⟨a2123, c2124, a2126, c2127, C2130, C2131, rfl, h2125, h2128, rfl⟩ hS
            replace hS := hS.open3
            refine s_nil (qn ?_)
            have hq := Option.some.inj hf
            subst hq
            replace hle := hle.trans (hk2100.trans hk2121)
            replace h1849 := h1849.mono hk2121
            refine s_join hJ _ ⟨K2120, a2123, c2124, C2130, a2126, c2127, C2131, rfl, hle, h1849, h2125, h2128, hS⟩ ⟨rfl, rfl, rfl, trivial⟩
          replace hf := bif_f hc hf
          refine s_skip (qn ?_)
          have hq := Option.some.inj hf
          subst hq
          replace h1849 := h1849.mono hk2100
          replace hle := hle.trans hk2100
          refine s_join hJ _ ⟨K2099, a2102, c2103, C2109, a2105, c2106, C2110, rfl, hle, h1849, h2104, h2107, hS⟩ ⟨rfl, rfl, rfl, trivial⟩
        rintro _ w ⟨K2073, a2076, c2077, C2078, a2081, c2082, C2083, rfl, hle, h2074, h2075, h2080, hS⟩
        refine s_seq (s_reg ?_)
        iterate 2 refine s_v rfl rfl rfl ?_
        obtain ⟨x2134, hx2135, hf⟩ := bs hf
        refine s_ixk h2074 rfl hx2135 rfl rfl rfl rfl rfl rfl rfl ?_
        rintro b2136 o2137 _ rfl h2138
        refine s_ldk 0 hS h2138 rfl rfl rfl rfl ?_
        refine s_v rfl rfl rfl ?_
        refine s_nil (qn ?_)
        refine s_if rfl (fun hc => ?_) (fun hc => ?_)
        · replace hf := bif_t hc hf
          refine s_reg ?_
          iterate 4 refine s_v rfl rfl rfl ?_
          obtain ⟨x2139, hx2140, hf⟩ := bs hf
          refine s_ixk h2074 rfl hx2140 rfl rfl rfl rfl rfl rfl rfl ?_
          rintro b2141 o2142 _ rfl h2143
          refine s_ldk 0 hS h2143 rfl rfl rfl rfl ?_
          refine s_v rfl rfl rfl ?_
          obtain ⟨x2144, hx2145, hf⟩ := bs hf
          refine s_call isf59 hS.nilG (bonsaiseat_num_spec hx2145) rfl rfl rfl ?_
          rintro _ K2146 C2148 w hk2147 rfl hS
          replace hS := hS.drop1
          obtain ⟨x2149, hx2150, hf⟩ := bs hf
          refine s_call isf50 hS.nilG (bonsaiseat_one_spec hx2150) rfl rfl rfl ?_
          rintro _ K2151 C2153 w hk2152 rfl hS
          replace hS := hS.drop1
          refine s_bwc (cs := ((vv77 x2144) ++ ((vv77 x2149) ++ []))) hS rfl rfl rfl rfl rfl rfl rfl rfl rfl rfl ?_
          intro b2154 w hS
          have h2156 : OwnS 77 K2151 (.slice (some ⟨b2154, 0, none⟩) 2 2) [x2144, x2149] [(b2154, Cl ((vv77 x2144) ++ ((vv77 x2149) ++ [])) 77)] := OwnS.lit ⟨(vv77 x2144), _, rfl, rfl, ⟨(vv77 x2149), _, rfl, rfl, rfl⟩⟩ rfl rfl
          obtain ⟨K2157, hk2158, h2159, hS⟩ := h2156.freeze (hS.sel [0, 1, 2, 3, 4] rfl)
          replace hS : Sat w _ (flat [_, _, _, _]) := hS
          obtain ⟨x2160, hx2161, hf⟩ := bs hf
          replace h2075 := h2075.mono ((hk2147.trans hk2152).trans hk2158)
          replace h2080 := h2080.mono ((hk2147.trans hk2152).trans hk2158)
          refine s_call isf58 (Sat.shut3 hS) (bonsaiseat_builder_add_spec hx2161 h2075 h2080 h2159) rfl rfl rfl ?_
          rintro _ K2162 _ w hk2163 ⟨a2165, c2166, a2168, c2169, C2172, C2173, rfl, h2167, h2170, rfl⟩ hS
          replace hS := hS.open3
          refine s_nil (qbn (qn ?_))
          have hq := Option.some.inj hf
          subst hq
          have hkk1 := ((hk2147.trans hk2152).trans hk2158).trans hk2163
          replace h2074 := h2074.mono hkk1
          replace hle := hle.trans hkk1
          refine s_join hJ _ ⟨K2162, a2165, c2166, C2172, a2168, c2169, C2173, rfl, hle, h2074, h2167, h2170, hS⟩ ⟨rfl, rfl, rfl, trivial⟩
        replace hf := bif_f hc hf
        refine s_skip (qbn (qn ?_))
        have hq := Option.some.inj hf
        subst hq
        refine s_join hJ _ ⟨K2073, a2076, c2077, C2078, a2081, c2082, C2083, rfl, hle, h2074, h2075, h2080, hS⟩ ⟨rfl, rfl, rfl, trivial⟩
      rintro _ w ⟨K2012, a2015, c2016, C2017, a2020, c2021, C2022, rfl, hle, h2013, h2014, h2019, hS⟩
      refine s_reg ?_
      iterate 3 refine s_v rfl rfl rfl ?_
      refine s_nil (qn ?_)
      refine s_join hY _ ⟨s2024.1, s2024.2, w64 (v1847 + 2), K2012, a2015, c2016, C2017, a2020, c2021, C2022, hf, rfl, hle, h2013, h2014, h2019, hS⟩ ⟨rfl, rfl, rfl, trivial⟩
    replace hf := bif_f hc hf
    refine s_exit (qxt (qxt (qxb (qn ?_))))
    have hq := Option.some.inj hf
    subst hq
    refine s_join hJ _ ⟨K1848, a1836, c1837, C1853, a1841, c1842, C1858, rfl, hle, h1850, h1855, hS⟩ ⟨rfl, trivial⟩
  rintro _ w ⟨K1125, a1127, c1128, C1129, a1132, c1133, C1134, rfl, hle, h1126, h1131, hS⟩
  refine s_seq (s_reg ?_)
  refine s_v rfl rfl rfl ?_
  obtain ⟨x2176, hx2177, hf⟩ := bs hf
  refine s_call isf50 hS.nilG (bonsaiseat_one_spec hx2177) rfl rfl rfl ?_
  rintro _ K2178 C2180 w hk2179 rfl hS
  replace hS := hS.drop1
  refine s_bwc (cs := (vv77 x2176)) hS rfl rfl rfl rfl rfl rfl rfl rfl rfl rfl ?_
  intro b2181 w hS
  have h2183 : OwnS 77 K2178 (.slice (some ⟨b2181, 0, none⟩) 1 1) [x2176] [(b2181, Cl (vv77 x2176) 77)] := OwnS.lit ⟨(vv77 x2176), _, rfl, rfl, rfl⟩ rfl rfl
  obtain ⟨K2184, hk2185, h2186, hS⟩ := h2183.freeze (hS.sel [0, 1, 2, 3, 4] rfl)
  replace hS : Sat w _ (flat [_, _, _, _]) := hS
  obtain ⟨x2187, hx2188, hf⟩ := bs hf
  replace h1126 := h1126.mono (hk2179.trans hk2185)
  replace h1131 := h1131.mono (hk2179.trans hk2185)
  refine s_call isf58 (Sat.shut3 hS) (bonsaiseat_builder_add_spec hx2188 h1126 h1131 h2186) rfl rfl rfl ?_
  rintro _ K2189 _ w hk2190 ⟨a2192, c2193, a2195, c2196, C2199, C2200, rfl, h2194, h2197, rfl⟩ hS
  replace hS := hS.open3
  refine s_nil (qn (s_seq ?_))
  refine d_start [0] [] hS ?_
  intro w hS
  refine d_v 0 (fun _ _ _ _ _ h => h) [0] hS rfl rfl rfl (by kernel_rfl) rfl rfl ?_
  refine d_v 1 (fun _ _ _ _ _ h => h) [0] hS rfl rfl rfl (by kernel_rfl) rfl rfl ?_
  refine d_v 2 (fun _ _ _ _ _ h => h) [0] hS rfl rfl rfl (by kernel_rfl) rfl rfl ?_
  refine d_ld 3 0 (fun _ _ _ _ _ h => h) [0] hS rfl rfl rfl rfl rfl (by kernel_rfl) rfl rfl ?_
  refine d_v 4 (fun _ _ _ _ _ h => h) [0] hS rfl rfl rfl (by kernel_rfl) rfl rfl ?_
  refine d_v 5 (fun _ _ _ _ _ h => h) [0] hS rfl rfl rfl (by kernel_rfl) rfl rfl ?_
  refine d_v 6 (fun _ _ _ _ _ h => h) [0] hS rfl rfl rfl (by kernel_rfl) rfl rfl ?_
  refine d_ld 7 0 (fun _ _ _ _ _ h => h) [0] hS rfl rfl rfl rfl rfl (by kernel_rfl) rfl rfl ?_
  refine d_v 8 (fun _ _ _ _ _ h => h) [0] hS rfl rfl rfl (by kernel_rfl) rfl rfl ?_
  refine d_v 9 (fun _ _ _ _ _ h => h) [0] hS rfl rfl rfl (by kernel_rfl) rfl rfl ?_
  refine d_end (by kernel_rfl) ?_
  refine qn ?_
  replace hS : Sat w K2189 (flat [_, _, _]) := (hS.sel [1, 2, 3] rfl)
  refine s_rets ?_
  obtain ⟨K2203, hk2204, h2205, hS⟩ := h2194.freeze (hS.sel [0, 1, 2] rfl)
  replace hS : Sat w _ (flat [_, _]) := hS
  replace h2197 := h2197.mono hk2204
  obtain ⟨K2206, hk2207, h2208, hS⟩ := h2197.freeze (hS.sel [0, 1] rfl)
  replace hS : Sat w _ (flat [_]) := hS
  have hq := Option.some.inj hf
  subst hq
  refine s_ret2 rfl (rv_t rfl) (rv_t rfl) ?_
  have hkk2 := (((hk2179.trans hk2185).trans hk2190).trans hk2204).trans hk2207
  replace hle := hle.trans hkk2
  replace h2205 := h2205.mono hk2207
  exact ⟨K2206, _, hle, ⟨a2192, c2193, a2195, c2196, rfl, h2205, h2208⟩, Sat.nilG (hS.sel [0] rfl)⟩
end Go.Proofs.Ytgaldjnnfkdohaa
