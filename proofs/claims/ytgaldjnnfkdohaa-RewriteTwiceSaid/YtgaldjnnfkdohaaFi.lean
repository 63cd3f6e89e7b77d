/- Functions of the program, and their walks: what each reckons, and that its code reckons it. -/
import Derived.Test.YtgaldjnnfkdohaaFg
set_option linter.unusedVariables false
set_option linter.unusedSimpArgs false
set_option maxHeartbeats 0
set_option maxRecDepth 100000
namespace Go.Proofs.Ytgaldjnnfkdohaa
open Go Go.Fw
noncomputable def bod9 : Code := Try.f9.body.getD .skip
theorem isf9 : IsFn Try.prog 9 Try.f9 bod9 := ⟨Try.func9, rfl, by decide⟩
-- 9 bonsai/bonsailaw19.RewriteTwice
def bonsailaw19_RewriteTwice.fn (fu : Nat) (p1 : Arr4_uint8) (p2 : (List Int)) (p6 : Int) (p7 : Int) : Option Bool := (bonsailaw19_known.fn fu).bind fun x11 => bif !x11 then (some false) else (bif decide ((p2.length : Int) > 40) then (some true) else ((bonsaiseat_Archive.fn fu p1 p2 []).bind fun x16 => (idx x16.Classes 0).bind fun x26 => (idx x26.Methods 0).bind fun x40 => (bif (iand .u8 p1.e2 4) == 4 then ((idx x16.Classes (w64 ((x16.Classes.length : Int) - 1))).bind fun x96 => (idx x96.Methods 0).bind fun x110 => some (x110.Name, x110.Params, x110.Ret.Kind, x110.Ret.Class, x110.Static, x110.Abstract, x110.Locals, x110.Code, x110.Handlers)) else (some (x40.Name, x40.Params, x40.Ret.Kind, x40.Ret.Class, x40.Static, x40.Abstract, x40.Locals, x40.Code, x40.Handlers))).bind fun s94 => guardB ((s94.2.2.2.2.2.2.2.1.length : Int) != 0) (guardB ((s94.2.2.2.2.2.2.2.1.length : Int) != 0) (bif decide ((Int.tmod (w64 p6) (s94.2.2.2.2.2.2.2.1.length : Int)) ≥ (Int.tmod (w64 p7) (s94.2.2.2.2.2.2.2.1.length : Int))) then (some true) else (guardB (mayMake (s94.2.2.2.2.2.2.2.1.length : Int) 24) (guardB (mayMake (w64 ((s94.2.2.2.2.2.2.2.1.length : Int) + 2)) 24) (guardB (mayMake (s94.2.2.2.2.2.2.2.1.length : Int) 24) ((idx s94.2.2.2.2.2.2.2.1 (Int.tmod (w64 p6) (s94.2.2.2.2.2.2.2.1.length : Int))).bind fun x283 => (idx (List.replicate (s94.2.2.2.2.2.2.2.1.length : Int).toNat (GoZero.zero 64 (α := (List api_Instr)))) (Int.tmod (w64 p6) (s94.2.2.2.2.2.2.2.1.length : Int))).bind fun x290 => (idx ((List.replicate (s94.2.2.2.2.2.2.2.1.length : Int).toNat (GoZero.zero 64 (α := (List api_Instr)))).set (Int.tmod (w64 p6) (s94.2.2.2.2.2.2.2.1.length : Int) : Int).toNat [(api_Instr.mk 3 0 0 ByteArray.empty ByteArray.empty ByteArray.empty ByteArray.empty), (api_Instr.mk 6 0 0 ByteArray.empty ByteArray.empty ByteArray.empty ByteArray.empty), x283]) (Int.tmod (w64 p6) (s94.2.2.2.2.2.2.2.1.length : Int))).bind fun x309 => (idx (List.replicate (s94.2.2.2.2.2.2.2.1.length : Int).toNat (GoZero.zero 64 (α := (List api_Instr)))) (Int.tmod (w64 p6) (s94.2.2.2.2.2.2.2.1.length : Int))).bind fun x321 => (idx s94.2.2.2.2.2.2.2.1 (Int.tmod (w64 p7) (s94.2.2.2.2.2.2.2.1.length : Int))).bind fun x361 => (idx ((List.replicate (s94.2.2.2.2.2.2.2.1.length : Int).toNat (GoZero.zero 64 (α := (List api_Instr)))).set (Int.tmod (w64 p6) (s94.2.2.2.2.2.2.2.1.length : Int) : Int).toNat x309) (Int.tmod (w64 p7) (s94.2.2.2.2.2.2.2.1.length : Int))).bind fun x369 => (rewrite_Method.fn fu (api_Method.mk s94.1 s94.2.1 (api_Type.mk s94.2.2.1 s94.2.2.2.1) s94.2.2.2.2.1 s94.2.2.2.2.2.1 s94.2.2.2.2.2.2.1 s94.2.2.2.2.2.2.2.1 s94.2.2.2.2.2.2.2.2) ((List.replicate (s94.2.2.2.2.2.2.2.1.length : Int).toNat (GoZero.zero 64 (α := (List api_Instr)))).set (Int.tmod (w64 p6) (s94.2.2.2.2.2.2.2.1.length : Int) : Int).toNat [(api_Instr.mk 3 0 0 ByteArray.empty ByteArray.empty ByteArray.empty ByteArray.empty), (api_Instr.mk 6 0 0 ByteArray.empty ByteArray.empty ByteArray.empty ByteArray.empty), x283])).bind fun x390 => (bif !x390.2 then (some (Int.tmod (w64 p7) (s94.2.2.2.2.2.2.2.1.length : Int), (List.replicate (w64 ((s94.2.2.2.2.2.2.2.1.length : Int) + 2)).toNat (GoZero.zero 64 (α := (List api_Instr)))), (((List.replicate (s94.2.2.2.2.2.2.2.1.length : Int).toNat (GoZero.zero 64 (α := (List api_Instr)))).set (Int.tmod (w64 p6) (s94.2.2.2.2.2.2.2.1.length : Int) : Int).toNat x309).set (Int.tmod (w64 p7) (s94.2.2.2.2.2.2.2.1.length : Int) : Int).toNat [(api_Instr.mk 3 0 0 ByteArray.empty ByteArray.empty ByteArray.empty ByteArray.empty), (api_Instr.mk 6 0 0 ByteArray.empty ByteArray.empty ByteArray.empty ByteArray.empty), x361]), true)) else (some (Int.tmod (w64 p7) (s94.2.2.2.2.2.2.2.1.length : Int), (List.replicate (w64 ((s94.2.2.2.2.2.2.2.1.length : Int) + 2)).toNat (GoZero.zero 64 (α := (List api_Instr)))), (((List.replicate (s94.2.2.2.2.2.2.2.1.length : Int).toNat (GoZero.zero 64 (α := (List api_Instr)))).set (Int.tmod (w64 p6) (s94.2.2.2.2.2.2.2.1.length : Int) : Int).toNat x309).set (Int.tmod (w64 p7) (s94.2.2.2.2.2.2.2.1.length : Int) : Int).toNat [(api_Instr.mk 3 0 0 ByteArray.empty ByteArray.empty ByteArray.empty ByteArray.empty), (api_Instr.mk 6 0 0 ByteArray.empty ByteArray.empty ByteArray.empty ByteArray.empty), x361]), (x390.1.Code.length : Int) != (w64 ((s94.2.2.2.2.2.2.2.1.length : Int) + 2))))).bind fun s435 => bif s435.2.2.2 then (some false) else ((idx x390.1.Code (w64 (s435.1 + 2))).bind fun x466 => (idx s435.2.1 (w64 (s435.1 + 2))).bind fun x477 => (rewrite_Method.fn fu x390.1 (s435.2.1.set (w64 (s435.1 + 2) : Int).toNat [(api_Instr.mk 3 0 0 ByteArray.empty ByteArray.empty ByteArray.empty ByteArray.empty), (api_Instr.mk 6 0 0 ByteArray.empty ByteArray.empty ByteArray.empty ByteArray.empty), x466])).bind fun x504 => (rewrite_Method.fn fu (api_Method.mk s94.1 s94.2.1 (api_Type.mk s94.2.2.1 s94.2.2.2.1) s94.2.2.2.2.1 s94.2.2.2.2.2.1 s94.2.2.2.2.2.2.1 s94.2.2.2.2.2.2.2.1 s94.2.2.2.2.2.2.2.2) s435.2.2.1).bind fun x527 => (bif x504.2 then (some x527.2) else (some false)).bind fun s570 => (bif s570 then ((bonsairef1_SameMethod.fn fu x504.1 x527.1).bind fun x604 => some x604) else (some false)).bind fun s590 => some s590)))))))))
theorem bonsailaw19_RewriteTwice_spec {K : KM} {fu : Nat} {p1 : Arr4_uint8} {p2 : (List Int)} {p6 : Int} {p7 : Int} {r : Bool} {a3 : Option Addr} {c4 : Nat} (hf : bonsailaw19_RewriteTwice.fn fu p1 p2 p6 p7 = some r) (h5 : SlK 5 K a3 c4 p2) : Sp Try.prog 9 [(.agg #[(.int .u8 p1.e0), (.int .u8 p1.e1), (.int .u8 p1.e2), (.int .u8 p1.e3)]), (.slice a3 p2.length c4), (.int .u8 p6), (.int .u8 p7)] K [] (fun K' C v => v = (.bool r)) := by
  unfold bonsailaw19_RewriteTwice.fn at hf
  refine spec_enter isf9 rfl ?_
  intro w L hS
  replace hS : Sat w K (flat [L]) := hS
  have hle := KM.le.refl K
  unfold bod9 Try.f9
  dsimp only [Option.getD_some, argSlots]
  refine s_seq (s_reg ?_)
  refine s_bx hS rfl rfl rfl ?_
  intro b9 w hS
  replace hS : Sat w K (flat ([(b9, Cl [(.int .u8 p1.e0), (.int .u8 p1.e1), (.int .u8 p1.e2), (.int .u8 p1.e3)] 68)] :: _)) := hS
  refine s_v rfl rfl rfl ?_
  refine s_nil (qn (s_seq (s_seq (s_reg ?_))))
  obtain ⟨x11, hx12, hf⟩ := Option.bind_eq_some_iff.1 hf
  refine s_call isf29 hS.nilG (bonsailaw19_known_spec hx12) rfl rfl rfl ?_
  rintro _ K13 C15 w hk14 rfl hS
  replace hS := hS.drop1
  refine s_v rfl rfl rfl ?_
  refine s_nil (qn ?_)
  refine s_if rfl (fun hc => ?_) (fun hc => ?_)
  · replace hf := bif_t hc hf
    refine s_seq (s_reg ?_)
    refine s_v rfl rfl rfl ?_
    refine s_nil (qn ?_)
    replace hS : Sat w K13 (flat [_]) := (hS.sel [1] rfl)
    refine s_rets (qrt ?_)
    have hq := Option.some.inj hf
    subst hq
    refine s_ret1 rfl (rv_t rfl) ?_
    replace hle := hle.trans hk14
    exact ⟨K13, _, hle, rfl, Sat.nilG (hS.sel [0] rfl)⟩
  replace hf := bif_f hc hf
  refine s_skip (qn (s_seq (s_seq (s_reg ?_))))
  iterate 3 refine s_v rfl rfl rfl ?_
  refine s_nil (qn ?_)
  refine s_if rfl (fun hc => ?_) (fun hc => ?_)
  · replace hf := bif_t hc hf
    refine s_seq (s_reg ?_)
    refine s_v rfl rfl rfl ?_
    refine s_nil (qn ?_)
    replace hS : Sat w K13 (flat [_]) := (hS.sel [1] rfl)
    refine s_rets (qrt ?_)
    have hq := Option.some.inj hf
    subst hq
    refine s_ret1 rfl (rv_t rfl) ?_
    replace hle := hle.trans hk14
    exact ⟨K13, _, hle, rfl, Sat.nilG (hS.sel [0] rfl)⟩
  replace hf := bif_f hc hf
  refine s_skip (qn (s_seq (s_reg ?_)))
  refine s_ld (v := (.agg #[(.int .u8 p1.e0), (.int .u8 p1.e1), (.int .u8 p1.e2), (.int .u8 p1.e3)])) 0 hS rfl rfl rfl rfl rfl ?_
  refine s_v rfl rfl rfl ?_
  obtain ⟨x16, hx17, hf⟩ := Option.bind_eq_some_iff.1 hf
  replace h5 := h5.mono hk14
  refine s_call isf31 hS.nilG (bonsaiseat_Archive_spec hx17 h5 SlK.nil) rfl rfl rfl ?_
  rintro _ K18 C20 w hk19 ⟨a21, c22, rfl, h23⟩ hS
  replace hS := hS.drop1
  refine s_al hS rfl rfl rfl ?_
  intro b24 w hS
  replace hS : Sat w K18 (flat ([(b24, Cl [(.slice none 0 0)] 74)] :: _)) := hS
  refine s_st (cs' := [(.slice a21 x16.Classes.length c22)]) 0 hS rfl rfl rfl rfl rfl ?_
  intro w hS
  replace hS : Sat w _ (flat [_, _, _]) := hS
  refine s_nil (qn (s_seq (s_reg ?_)))
  refine s_v rfl rfl rfl ?_
  refine s_ld 0 hS rfl rfl rfl rfl rfl ?_
  obtain ⟨x26, hx27, hf⟩ := Option.bind_eq_some_iff.1 hf
  refine s_ixk h23 rfl hx27 rfl rfl rfl rfl rfl rfl rfl ?_
  rintro b37 o38 _ ⟨a28, c29, a31, c32, a34, c35, rfl, h30, h33, h36⟩ h39
  refine s_v rfl rfl rfl ?_
  refine s_ldk 5 hS h39 rfl rfl rfl rfl ?_
  obtain ⟨x40, hx41, hf⟩ := Option.bind_eq_some_iff.1 hf
  refine s_ixk h36 rfl hx41 rfl rfl rfl rfl rfl rfl rfl ?_
  rintro b51 o52 _ ⟨a42, c43, a45, c46, a48, c49, rfl, h44, h47, h50⟩ h53
  refine s_ldk (v := (.agg #[(.string x40.Name), (.slice a42 x40.Params.length c43), (.int .i64 x40.Ret.Kind), (.string x40.Ret.Class), (.bool x40.Static), (.bool x40.Abstract), (.int .i64 x40.Locals), (.slice a45 x40.Code.length c46), (.slice a48 x40.Handlers.length c49)])) 0 hS h53 rfl rfl rfl rfl ?_
  refine s_al hS rfl rfl rfl ?_
  intro b54 w hS
  replace hS : Sat w K18 (flat ([(b54, Cl [(.string ByteArray.empty), (.slice none 0 0), (.int .i64 0), (.string ByteArray.empty), (.bool false), (.bool false), (.int .i64 0), (.slice none 0 0), (.slice none 0 0)] 67)] :: _)) := hS
  refine s_st (cs' := [(.string x40.Name), (.slice a42 x40.Params.length c43), (.int .i64 x40.Ret.Kind), (.string x40.Ret.Class), (.bool x40.Static), (.bool x40.Abstract), (.int .i64 x40.Locals), (.slice a45 x40.Code.length c46), (.slice a48 x40.Handlers.length c49)]) 0 hS rfl rfl rfl rfl rfl ?_
  intro w hS
  replace hS : Sat w _ (flat [_, _, _, _]) := hS
  refine s_nil (qn ?_)
  obtain ⟨s94, hst95, hf⟩ := Option.bind_eq_some_iff.1 hf
  refine s_cut (fun τ w => ∃ (K84 : KM) (a86 : Option Addr) (c87 : Nat) (a89 : Option Addr) (c90 : Nat) (a92 : Option Addr) (c93 : Nat), τ = [(2, (.int .u8 p6)), (3, (.int .u8 p7)), (10, (.pointer (some ⟨b54, 0, none⟩)))] ∧ KM.le K K84 ∧ SlK 63 K84 a86 c87 s94.2.1 ∧ SlK 77 K84 a89 c90 s94.2.2.2.2.2.2.2.1 ∧ SlK 92 K84 a92 c93 s94.2.2.2.2.2.2.2.2 ∧ Sat w K84 (flat [[(b54, Cl [(.string s94.1), (.slice a86 s94.2.1.length c87), (.int .i64 s94.2.2.1), (.string s94.2.2.2.1), (.bool s94.2.2.2.2.1), (.bool s94.2.2.2.2.2.1), (.int .i64 s94.2.2.2.2.2.2.1), (.slice a89 s94.2.2.2.2.2.2.2.1.length c90), (.slice a92 s94.2.2.2.2.2.2.2.2.length c93)] 67)], L])) (fun J hJ => ?_) ?_
  · replace hf := hst95
    refine s_seq (s_reg ?_)
    refine s_v rfl rfl rfl ?_
    refine s_ld 2 hS rfl rfl rfl rfl rfl ?_
    iterate 2 refine s_v rfl rfl rfl ?_
    refine s_nil (qn ?_)
    replace hS : Sat w K18 (flat [_, _, _]) := (hS.sel [0, 1, 3] rfl)
    refine s_if rfl (fun hc => ?_) (fun hc => ?_)
    · replace hf := bif_t hc hf
      refine s_reg ?_
      refine s_v rfl rfl rfl ?_
      refine s_ld 1 hS rfl rfl rfl rfl rfl ?_
      refine s_v rfl rfl rfl ?_
      refine s_ld 1 hS rfl rfl rfl rfl rfl ?_
      iterate 2 refine s_v rfl rfl rfl ?_
      obtain ⟨x96, hx97, hf⟩ := Option.bind_eq_some_iff.1 hf
      refine s_ixk h23 rfl hx97 rfl rfl rfl rfl rfl rfl rfl ?_
      rintro b107 o108 _ ⟨a98, c99, a101, c102, a104, c105, rfl, h100, h103, h106⟩ h109
      refine s_v rfl rfl rfl ?_
      refine s_ldk 5 hS h109 rfl rfl rfl rfl ?_
      obtain ⟨x110, hx111, hf⟩ := Option.bind_eq_some_iff.1 hf
      refine s_ixk h106 rfl hx111 rfl rfl rfl rfl rfl rfl rfl ?_
      rintro b121 o122 _ ⟨a112, c113, a115, c116, a118, c119, rfl, h114, h117, h120⟩ h123
      refine s_ldk (v := (.agg #[(.string x110.Name), (.slice a112 x110.Params.length c113), (.int .i64 x110.Ret.Kind), (.string x110.Ret.Class), (.bool x110.Static), (.bool x110.Abstract), (.int .i64 x110.Locals), (.slice a115 x110.Code.length c116), (.slice a118 x110.Handlers.length c119)])) 0 hS h123 rfl rfl rfl rfl ?_
      refine s_st (cs' := [(.string x110.Name), (.slice a112 x110.Params.length c113), (.int .i64 x110.Ret.Kind), (.string x110.Ret.Class), (.bool x110.Static), (.bool x110.Abstract), (.int .i64 x110.Locals), (.slice a115 x110.Code.length c116), (.slice a118 x110.Handlers.length c119)]) 0 hS rfl rfl rfl rfl rfl ?_
      intro w hS
      replace hS : Sat w _ (flat [_, _, _]) := hS
      refine s_nil (qn ?_)
      have hq := Option.some.inj hf
      subst hq
      replace hle := hle.trans (hk14.trans hk19)
      refine s_join hJ _ ⟨K18, a112, c113, a115, c116, a118, c119, rfl, hle, h114, h117, h120, (hS.sel [0, 2] rfl)⟩ ⟨rfl, rfl, rfl, trivial⟩
    replace hf := bif_f hc hf
    refine s_skip (qn ?_)
    have hq := Option.some.inj hf
    subst hq
    replace hle := hle.trans (hk14.trans hk19)
    refine s_join hJ _ ⟨K18, a42, c43, a45, c46, a48, c49, rfl, hle, h44, h47, h50, (hS.sel [0, 2] rfl)⟩ ⟨rfl, rfl, rfl, trivial⟩
  rintro _ w ⟨K84, a86, c87, a89, c90, a92, c93, rfl, hle, h85, h88, h91, hS⟩
  refine s_seq (s_reg ?_)
  refine s_v rfl rfl rfl ?_
  refine s_ld 0 hS rfl rfl rfl rfl rfl ?_
  iterate 2 refine s_v rfl rfl rfl ?_
  refine s_nil (qn (s_seq ?_))
  refine d_start [] [] hS ?_
  intro w hS
  refine d_v 0 (fun _ _ _ _ _ h => h) [] hS rfl rfl rfl (by kernel_rfl) rfl rfl ?_
  refine d_v 1 (fun _ _ _ _ _ h => h) [] hS rfl rfl rfl (by kernel_rfl) rfl rfl ?_
  refine d_v 2 (fun _ _ _ _ _ h => h) [] hS rfl rfl rfl (by kernel_rfl) rfl rfl ?_
  obtain ⟨hm126, hf⟩ := guardB_some hf
  refine d_rem 3 (fun _ _ _ _ _ h => h) [] hS hm126 rfl rfl rfl rfl (by kernel_rfl) rfl rfl ?_
  refine d_v 4 (fun _ _ _ _ _ h => h) [] hS rfl rfl rfl (by kernel_rfl) rfl rfl ?_
  refine d_v 5 (fun _ _ _ _ _ h => h) [] hS rfl rfl rfl (by kernel_rfl) rfl rfl ?_
  refine d_v 6 (fun _ _ _ _ _ h => h) [] hS rfl rfl rfl (by kernel_rfl) rfl rfl ?_
  obtain ⟨hm127, hf⟩ := guardB_some hf
  refine d_rem 7 (fun _ _ _ _ _ h => h) [] hS hm127 rfl rfl rfl rfl (by kernel_rfl) rfl rfl ?_
  refine d_v 8 (fun _ _ _ _ _ h => h) [] hS rfl rfl rfl (by kernel_rfl) rfl rfl ?_
  refine d_v 9 (fun _ _ _ _ _ h => h) [] hS rfl rfl rfl (by kernel_rfl) rfl rfl ?_
  refine d_end (by kernel_rfl) ?_
  refine qn (s_seq (s_seq (s_reg ?_)))
  iterate 3 refine s_v rfl rfl rfl ?_
  refine s_nil (qn ?_)
  refine s_if rfl (fun hc => ?_) (fun hc => ?_)
  · replace hf := bif_t hc hf
    refine s_seq (s_reg ?_)
    refine s_v rfl rfl rfl ?_
    refine s_nil (qn ?_)
    replace hS : Sat w K84 (flat [_]) := (hS.sel [1] rfl)
    refine s_rets (qrt ?_)
    have hq := Option.some.inj hf
    subst hq
    refine s_ret1 rfl (rv_t rfl) ?_
    exact ⟨K84, _, hle, rfl, Sat.nilG (hS.sel [0] rfl)⟩
  replace hf := bif_f hc hf
  refine s_skip (qn (s_seq (s_reg ?_)))
  refine s_v (v := (.agg #[(.int .i64 3), (.int .i32 0), (.int .i64 0), (.string ByteArray.empty), (.string ByteArray.empty), (.string ByteArray.empty), (.string ByteArray.empty)])) rfl rfl rfl ?_
  refine s_al hS rfl rfl rfl ?_
  intro b128 w hS
  replace hS : Sat w K84 (flat ([(b128, Cl [(.int .i64 0), (.int .i32 0), (.int .i64 0), (.string ByteArray.empty), (.string ByteArray.empty), (.string ByteArray.empty), (.string ByteArray.empty)] 77)] :: _)) := hS
  refine s_st (cs' := [(.int .i64 3), (.int .i32 0), (.int .i64 0), (.string ByteArray.empty), (.string ByteArray.empty), (.string ByteArray.empty), (.string ByteArray.empty)]) 0 hS rfl rfl rfl rfl rfl ?_
  intro w hS
  replace hS : Sat w _ (flat [_, _, _]) := hS
  refine s_nil (qn (s_seq (s_reg ?_)))
  refine s_v (v := (.agg #[(.int .i64 6), (.int .i32 0), (.int .i64 0), (.string ByteArray.empty), (.string ByteArray.empty), (.string ByteArray.empty), (.string ByteArray.empty)])) rfl rfl rfl ?_
  refine s_al hS rfl rfl rfl ?_
  intro b130 w hS
  replace hS : Sat w K84 (flat ([(b130, Cl [(.int .i64 0), (.int .i32 0), (.int .i64 0), (.string ByteArray.empty), (.string ByteArray.empty), (.string ByteArray.empty), (.string ByteArray.empty)] 77)] :: _)) := hS
  refine s_st (cs' := [(.int .i64 6), (.int .i32 0), (.int .i64 0), (.string ByteArray.empty), (.string ByteArray.empty), (.string ByteArray.empty), (.string ByteArray.empty)]) 0 hS rfl rfl rfl rfl rfl ?_
  intro w hS
  replace hS : Sat w _ (flat [_, _, _, _]) := hS
  refine s_nil (qn (s_seq ?_))
  obtain ⟨hm160, hf⟩ := guardB_some hf
  obtain ⟨hm187, hf⟩ := guardB_some hf
  obtain ⟨hm208, hf⟩ := guardB_some hf
  refine d_make (G := [[(b130, Cl [(.int .i64 6), (.int .i32 0), (.int .i64 0), (.string ByteArray.empty), (.string ByteArray.empty), (.string ByteArray.empty), (.string ByteArray.empty)] 77)], [(b128, Cl [(.int .i64 3), (.int .i32 0), (.int .i64 0), (.string ByteArray.empty), (.string ByteArray.empty), (.string ByteArray.empty), (.string ByteArray.empty)] 77)], [(b54, Cl [(.string s94.1), (.slice a86 s94.2.1.length c87), (.int .i64 s94.2.2.1), (.string s94.2.2.2.1), (.bool s94.2.2.2.2.1), (.bool s94.2.2.2.2.2.1), (.int .i64 s94.2.2.2.2.2.2.1), (.slice a89 s94.2.2.2.2.2.2.2.1.length c90), (.slice a92 s94.2.2.2.2.2.2.2.2.length c93)] 67)], L]) [⟨9, some 18, [], [77], fun K D v C => ∃ (a243 : Option Addr) (c244 : Nat), v = (.slice a243 ((List.replicate (s94.2.2.2.2.2.2.2.1.length : Int).toNat (GoZero.zero 64 (α := (List api_Instr)))).length) c244) ∧ D 77 = some (.slice a243 ((List.replicate (s94.2.2.2.2.2.2.2.1.length : Int).toNat (GoZero.zero 64 (α := (List api_Instr)))).length) c244) ∧ C = []⟩, ⟨8, some 17, [], [75], fun K D v C => ∃ (a234 : Option Addr) (c235 : Nat), v = (.slice a234 ((List.replicate (w64 ((s94.2.2.2.2.2.2.2.1.length : Int) + 2)).toNat (GoZero.zero 64 (α := (List api_Instr)))).length) c235) ∧ D 75 = some (.slice a234 ((List.replicate (w64 ((s94.2.2.2.2.2.2.2.1.length : Int) + 2)).toNat (GoZero.zero 64 (α := (List api_Instr)))).length) c235) ∧ C = []⟩, ⟨7, some 16, [], [72], fun K D v C => ∃ (a225 : Option Addr) (c226 : Nat), v = (.slice a225 ((List.replicate (s94.2.2.2.2.2.2.2.1.length : Int).toNat (GoZero.zero 64 (α := (List api_Instr)))).length) c226) ∧ D 72 = some (.slice a225 ((List.replicate (s94.2.2.2.2.2.2.2.1.length : Int).toNat (GoZero.zero 64 (α := (List api_Instr)))).length) c226) ∧ C = []⟩, ⟨6, some 77, [], [], fun K D v C => ∃ (C215 : Chunks) (a216 : Option Addr) (c217 : Nat), v = (.slice a216 ((List.replicate (s94.2.2.2.2.2.2.2.1.length : Int).toNat (GoZero.zero 64 (α := (List api_Instr)))).length) c217) ∧ OwnS 64 K (.slice a216 ((List.replicate (s94.2.2.2.2.2.2.2.1.length : Int).toNat (GoZero.zero 64 (α := (List api_Instr)))).length) c217) (List.replicate (s94.2.2.2.2.2.2.2.1.length : Int).toNat (GoZero.zero 64 (α := (List api_Instr)))) C215 ∧ C215 = C⟩, ⟨5, some 76, [], [], fun K D v C => v = (.int .i64 (s94.2.2.2.2.2.2.2.1.length : Int)) ∧ C = []⟩, ⟨4, some 75, [], [], fun K D v C => ∃ (C194 : Chunks) (a195 : Option Addr) (c196 : Nat), v = (.slice a195 ((List.replicate (w64 ((s94.2.2.2.2.2.2.2.1.length : Int) + 2)).toNat (GoZero.zero 64 (α := (List api_Instr)))).length) c196) ∧ OwnS 64 K (.slice a195 ((List.replicate (w64 ((s94.2.2.2.2.2.2.2.1.length : Int) + 2)).toNat (GoZero.zero 64 (α := (List api_Instr)))).length) c196) (List.replicate (w64 ((s94.2.2.2.2.2.2.2.1.length : Int) + 2)).toNat (GoZero.zero 64 (α := (List api_Instr)))) C194 ∧ C194 = C⟩, ⟨3, some 74, [], [], fun K D v C => v = (.int .i64 (w64 ((s94.2.2.2.2.2.2.2.1.length : Int) + 2))) ∧ C = []⟩, ⟨2, some 73, [], [], fun K D v C => v = (.int .i64 (s94.2.2.2.2.2.2.2.1.length : Int)) ∧ C = []⟩, ⟨1, some 72, [], [], fun K D v C => ∃ (C167 : Chunks) (a168 : Option Addr) (c169 : Nat), v = (.slice a168 ((List.replicate (s94.2.2.2.2.2.2.2.1.length : Int).toNat (GoZero.zero 64 (α := (List api_Instr)))).length) c169) ∧ OwnS 64 K (.slice a168 ((List.replicate (s94.2.2.2.2.2.2.2.1.length : Int).toNat (GoZero.zero 64 (α := (List api_Instr)))).length) c169) (List.replicate (s94.2.2.2.2.2.2.2.1.length : Int).toNat (GoZero.zero 64 (α := (List api_Instr)))) C167 ∧ C167 = C⟩, ⟨0, some 71, [], [], fun K D v C => v = (.int .i64 (s94.2.2.2.2.2.2.2.1.length : Int)) ∧ C = []⟩] #[true, true, true, true, true, true, true, true, true, true] 0 0 ⟨by kernel_rfl, by kernel_rfl, by kernel_rfl, by kernel_rfl, by kernel_rfl, by kernel_rfl, by kernel_rfl⟩ rfl (by kernel_rfl) rfl hS ⟨?_, ?_, ?_, ?_, ?_, ?_, ?_, ?_, ?_, ?_, trivial⟩ ?_
  · refine ⟨_, rfl, rfl, rfl, ?_⟩
    intro K237 w Y238 σ hl0 hS hd hs X hX
    replace hS : Sat w K237 (flat [[(b130, Cl [(.int .i64 6), (.int .i32 0), (.int .i64 0), (.string ByteArray.empty), (.string ByteArray.empty), (.string ByteArray.empty), (.string ByteArray.empty)] 77)], [(b128, Cl [(.int .i64 3), (.int .i32 0), (.int .i64 0), (.string ByteArray.empty), (.string ByteArray.empty), (.string ByteArray.empty), (.string ByteArray.empty)] 77)], [(b54, Cl [(.string s94.1), (.slice a86 s94.2.1.length c87), (.int .i64 s94.2.2.1), (.string s94.2.2.2.1), (.bool s94.2.2.2.2.1), (.bool s94.2.2.2.2.2.1), (.int .i64 s94.2.2.2.2.2.2.1), (.slice a89 s94.2.2.2.2.2.2.2.1.length c90), (.slice a92 s94.2.2.2.2.2.2.2.2.length c93)] 67)], L, Y238]) := hS
    obtain ⟨_, _, _, hk241, hv240, C215, a216, c217, rfl, h218, _⟩ := hd 3 _ rfl (by kernel_rfl)
    have hh242 : within [(77, (.slice a216 ((List.replicate (s94.2.2.2.2.2.2.2.1.length : Int).toNat (GoZero.zero 64 (α := (List api_Instr)))).length) c217))] σ := ⟨hv240, trivial⟩
    refine rg_head hh242 ?_
    have hle := KM.le.refl K237
    refine s_v rfl rfl rfl ?_
    refine s_nil ?_
    exact hX _ _ _ _ _ hh242 hle ⟨a216, c217, rfl, hv240, rfl⟩ hS.nilG
  · refine ⟨_, rfl, rfl, rfl, ?_⟩
    intro K228 w Y229 σ hl0 hS hd hs X hX
    replace hS : Sat w K228 (flat [[(b130, Cl [(.int .i64 6), (.int .i32 0), (.int .i64 0), (.string ByteArray.empty), (.string ByteArray.empty), (.string ByteArray.empty), (.string ByteArray.empty)] 77)], [(b128, Cl [(.int .i64 3), (.int .i32 0), (.int .i64 0), (.string ByteArray.empty), (.string ByteArray.empty), (.string ByteArray.empty), (.string ByteArray.empty)] 77)], [(b54, Cl [(.string s94.1), (.slice a86 s94.2.1.length c87), (.int .i64 s94.2.2.1), (.string s94.2.2.2.1), (.bool s94.2.2.2.2.1), (.bool s94.2.2.2.2.2.1), (.int .i64 s94.2.2.2.2.2.2.1), (.slice a89 s94.2.2.2.2.2.2.2.1.length c90), (.slice a92 s94.2.2.2.2.2.2.2.2.length c93)] 67)], L, Y229]) := hS
    obtain ⟨_, _, _, hk232, hv231, C194, a195, c196, rfl, h197, _⟩ := hd 5 _ rfl (by kernel_rfl)
    have hh233 : within [(75, (.slice a195 ((List.replicate (w64 ((s94.2.2.2.2.2.2.2.1.length : Int) + 2)).toNat (GoZero.zero 64 (α := (List api_Instr)))).length) c196))] σ := ⟨hv231, trivial⟩
    refine rg_head hh233 ?_
    have hle := KM.le.refl K228
    refine s_v rfl rfl rfl ?_
    refine s_nil ?_
    exact hX _ _ _ _ _ hh233 hle ⟨a195, c196, rfl, hv231, rfl⟩ hS.nilG
  · refine ⟨_, rfl, rfl, rfl, ?_⟩
    intro K219 w Y220 σ hl0 hS hd hs X hX
    replace hS : Sat w K219 (flat [[(b130, Cl [(.int .i64 6), (.int .i32 0), (.int .i64 0), (.string ByteArray.empty), (.string ByteArray.empty), (.string ByteArray.empty), (.string ByteArray.empty)] 77)], [(b128, Cl [(.int .i64 3), (.int .i32 0), (.int .i64 0), (.string ByteArray.empty), (.string ByteArray.empty), (.string ByteArray.empty), (.string ByteArray.empty)] 77)], [(b54, Cl [(.string s94.1), (.slice a86 s94.2.1.length c87), (.int .i64 s94.2.2.1), (.string s94.2.2.2.1), (.bool s94.2.2.2.2.1), (.bool s94.2.2.2.2.2.1), (.int .i64 s94.2.2.2.2.2.2.1), (.slice a89 s94.2.2.2.2.2.2.2.1.length c90), (.slice a92 s94.2.2.2.2.2.2.2.2.length c93)] 67)], L, Y220]) := hS
    obtain ⟨_, _, _, hk223, hv222, C167, a168, c169, rfl, h170, _⟩ := hd 8 _ rfl (by kernel_rfl)
    have hh224 : within [(72, (.slice a168 ((List.replicate (s94.2.2.2.2.2.2.2.1.length : Int).toNat (GoZero.zero 64 (α := (List api_Instr)))).length) c169))] σ := ⟨hv222, trivial⟩
    refine rg_head hh224 ?_
    have hle := KM.le.refl K219
    refine s_v rfl rfl rfl ?_
    refine s_nil ?_
    exact hX _ _ _ _ _ hh224 hle ⟨a168, c169, rfl, hv222, rfl⟩ hS.nilG
  · refine ⟨_, rfl, rfl, rfl, ?_⟩
    intro K202 w Y203 σ hl0 hS hd hs X hX
    replace hS : Sat w K202 (flat [[(b130, Cl [(.int .i64 6), (.int .i32 0), (.int .i64 0), (.string ByteArray.empty), (.string ByteArray.empty), (.string ByteArray.empty), (.string ByteArray.empty)] 77)], [(b128, Cl [(.int .i64 3), (.int .i32 0), (.int .i64 0), (.string ByteArray.empty), (.string ByteArray.empty), (.string ByteArray.empty), (.string ByteArray.empty)] 77)], [(b54, Cl [(.string s94.1), (.slice a86 s94.2.1.length c87), (.int .i64 s94.2.2.1), (.string s94.2.2.2.1), (.bool s94.2.2.2.2.1), (.bool s94.2.2.2.2.2.1), (.int .i64 s94.2.2.2.2.2.2.1), (.slice a89 s94.2.2.2.2.2.2.2.1.length c90), (.slice a92 s94.2.2.2.2.2.2.2.2.length c93)] 67)], L, Y203]) := hS
    obtain ⟨_, _, _, hk206, hv205, rfl, _⟩ := hd 4 _ rfl (by kernel_rfl)
    have hh207 : within [(76, (.int .i64 (s94.2.2.2.2.2.2.2.1.length : Int)))] σ := ⟨hv205, trivial⟩
    refine rg_head hh207 ?_
    have hle := KM.le.refl K202
    refine s_mks (e := 64) (α := (List api_Instr)) hS rfl rfl rfl rfl (mayMake_le hm208).1 (mayMake_le hm208).2 rfl rfl rfl rfl rfl rfl ?_
    intro a209 c210 w C211 h212 hS
    refine s_nil ?_
    exact hX _ _ _ _ _ hh207 hle ⟨C211, a209, c210, rfl, h212, rfl⟩ hS
  · refine ⟨_, rfl, rfl, rfl, ?_⟩
    intro K198 w Y199 σ hl0 hS hd hs X hX
    replace hS : Sat w K198 (flat [[(b130, Cl [(.int .i64 6), (.int .i32 0), (.int .i64 0), (.string ByteArray.empty), (.string ByteArray.empty), (.string ByteArray.empty), (.string ByteArray.empty)] 77)], [(b128, Cl [(.int .i64 3), (.int .i32 0), (.int .i64 0), (.string ByteArray.empty), (.string ByteArray.empty), (.string ByteArray.empty), (.string ByteArray.empty)] 77)], [(b54, Cl [(.string s94.1), (.slice a86 s94.2.1.length c87), (.int .i64 s94.2.2.1), (.string s94.2.2.2.1), (.bool s94.2.2.2.2.1), (.bool s94.2.2.2.2.2.1), (.int .i64 s94.2.2.2.2.2.2.1), (.slice a89 s94.2.2.2.2.2.2.2.1.length c90), (.slice a92 s94.2.2.2.2.2.2.2.2.length c93)] 67)], L, Y199]) := hS
    have hh201 : within [(11, (.int .i64 (s94.2.2.2.2.2.2.2.1.length : Int)))] σ := ⟨hs 11 _ rfl rfl, trivial⟩
    refine rg_head hh201 ?_
    have hle := KM.le.refl K198
    refine s_v rfl rfl rfl ?_
    refine s_nil ?_
    exact hX _ _ _ _ _ hh201 hle ⟨rfl, rfl⟩ hS.nilG
  · refine ⟨_, rfl, rfl, rfl, ?_⟩
    intro K181 w Y182 σ hl0 hS hd hs X hX
    replace hS : Sat w K181 (flat [[(b130, Cl [(.int .i64 6), (.int .i32 0), (.int .i64 0), (.string ByteArray.empty), (.string ByteArray.empty), (.string ByteArray.empty), (.string ByteArray.empty)] 77)], [(b128, Cl [(.int .i64 3), (.int .i32 0), (.int .i64 0), (.string ByteArray.empty), (.string ByteArray.empty), (.string ByteArray.empty), (.string ByteArray.empty)] 77)], [(b54, Cl [(.string s94.1), (.slice a86 s94.2.1.length c87), (.int .i64 s94.2.2.1), (.string s94.2.2.2.1), (.bool s94.2.2.2.2.1), (.bool s94.2.2.2.2.2.1), (.int .i64 s94.2.2.2.2.2.2.1), (.slice a89 s94.2.2.2.2.2.2.2.1.length c90), (.slice a92 s94.2.2.2.2.2.2.2.2.length c93)] 67)], L, Y182]) := hS
    obtain ⟨_, _, _, hk185, hv184, rfl, _⟩ := hd 6 _ rfl (by kernel_rfl)
    have hh186 : within [(74, (.int .i64 (w64 ((s94.2.2.2.2.2.2.2.1.length : Int) + 2))))] σ := ⟨hv184, trivial⟩
    refine rg_head hh186 ?_
    have hle := KM.le.refl K181
    refine s_mks (e := 64) (α := (List api_Instr)) hS rfl rfl rfl rfl (mayMake_le hm187).1 (mayMake_le hm187).2 rfl rfl rfl rfl rfl rfl ?_
    intro a188 c189 w C190 h191 hS
    refine s_nil ?_
    exact hX _ _ _ _ _ hh186 hle ⟨C190, a188, c189, rfl, h191, rfl⟩ hS
  · refine ⟨_, rfl, rfl, rfl, ?_⟩
    intro K175 w Y176 σ hl0 hS hd hs X hX
    replace hS : Sat w K175 (flat [[(b130, Cl [(.int .i64 6), (.int .i32 0), (.int .i64 0), (.string ByteArray.empty), (.string ByteArray.empty), (.string ByteArray.empty), (.string ByteArray.empty)] 77)], [(b128, Cl [(.int .i64 3), (.int .i32 0), (.int .i64 0), (.string ByteArray.empty), (.string ByteArray.empty), (.string ByteArray.empty), (.string ByteArray.empty)] 77)], [(b54, Cl [(.string s94.1), (.slice a86 s94.2.1.length c87), (.int .i64 s94.2.2.1), (.string s94.2.2.2.1), (.bool s94.2.2.2.2.1), (.bool s94.2.2.2.2.2.1), (.int .i64 s94.2.2.2.2.2.2.1), (.slice a89 s94.2.2.2.2.2.2.2.1.length c90), (.slice a92 s94.2.2.2.2.2.2.2.2.length c93)] 67)], L, Y176]) := hS
    obtain ⟨_, _, _, hk179, hv178, rfl, _⟩ := hd 7 _ rfl (by kernel_rfl)
    have hh180 : within [(73, (.int .i64 (s94.2.2.2.2.2.2.2.1.length : Int)))] σ := ⟨hv178, trivial⟩
    refine rg_head hh180 ?_
    have hle := KM.le.refl K175
    refine s_v rfl rfl rfl ?_
    refine s_nil ?_
    exact hX _ _ _ _ _ hh180 hle ⟨rfl, rfl⟩ hS.nilG
  · refine ⟨_, rfl, rfl, rfl, ?_⟩
    intro K171 w Y172 σ hl0 hS hd hs X hX
    replace hS : Sat w K171 (flat [[(b130, Cl [(.int .i64 6), (.int .i32 0), (.int .i64 0), (.string ByteArray.empty), (.string ByteArray.empty), (.string ByteArray.empty), (.string ByteArray.empty)] 77)], [(b128, Cl [(.int .i64 3), (.int .i32 0), (.int .i64 0), (.string ByteArray.empty), (.string ByteArray.empty), (.string ByteArray.empty), (.string ByteArray.empty)] 77)], [(b54, Cl [(.string s94.1), (.slice a86 s94.2.1.length c87), (.int .i64 s94.2.2.1), (.string s94.2.2.2.1), (.bool s94.2.2.2.2.1), (.bool s94.2.2.2.2.2.1), (.int .i64 s94.2.2.2.2.2.2.1), (.slice a89 s94.2.2.2.2.2.2.2.1.length c90), (.slice a92 s94.2.2.2.2.2.2.2.2.length c93)] 67)], L, Y172]) := hS
    have hh174 : within [(11, (.int .i64 (s94.2.2.2.2.2.2.2.1.length : Int)))] σ := ⟨hs 11 _ rfl rfl, trivial⟩
    refine rg_head hh174 ?_
    have hle := KM.le.refl K171
    refine s_v rfl rfl rfl ?_
    refine s_nil ?_
    exact hX _ _ _ _ _ hh174 hle ⟨rfl, rfl⟩ hS.nilG
  · refine ⟨_, rfl, rfl, rfl, ?_⟩
    intro K154 w Y155 σ hl0 hS hd hs X hX
    replace hS : Sat w K154 (flat [[(b130, Cl [(.int .i64 6), (.int .i32 0), (.int .i64 0), (.string ByteArray.empty), (.string ByteArray.empty), (.string ByteArray.empty), (.string ByteArray.empty)] 77)], [(b128, Cl [(.int .i64 3), (.int .i32 0), (.int .i64 0), (.string ByteArray.empty), (.string ByteArray.empty), (.string ByteArray.empty), (.string ByteArray.empty)] 77)], [(b54, Cl [(.string s94.1), (.slice a86 s94.2.1.length c87), (.int .i64 s94.2.2.1), (.string s94.2.2.2.1), (.bool s94.2.2.2.2.1), (.bool s94.2.2.2.2.2.1), (.int .i64 s94.2.2.2.2.2.2.1), (.slice a89 s94.2.2.2.2.2.2.2.1.length c90), (.slice a92 s94.2.2.2.2.2.2.2.2.length c93)] 67)], L, Y155]) := hS
    obtain ⟨_, _, _, hk158, hv157, rfl, _⟩ := hd 9 _ rfl (by kernel_rfl)
    have hh159 : within [(71, (.int .i64 (s94.2.2.2.2.2.2.2.1.length : Int)))] σ := ⟨hv157, trivial⟩
    refine rg_head hh159 ?_
    have hle := KM.le.refl K154
    refine s_mks (e := 64) (α := (List api_Instr)) hS rfl rfl rfl rfl (mayMake_le hm160).1 (mayMake_le hm160).2 rfl rfl rfl rfl rfl rfl ?_
    intro a161 c162 w C163 h164 hS
    refine s_nil ?_
    exact hX _ _ _ _ _ hh159 hle ⟨C163, a161, c162, rfl, h164, rfl⟩ hS
  · refine ⟨_, rfl, rfl, rfl, ?_⟩
    intro K150 w Y151 σ hl0 hS hd hs X hX
    replace hS : Sat w K150 (flat [[(b130, Cl [(.int .i64 6), (.int .i32 0), (.int .i64 0), (.string ByteArray.empty), (.string ByteArray.empty), (.string ByteArray.empty), (.string ByteArray.empty)] 77)], [(b128, Cl [(.int .i64 3), (.int .i32 0), (.int .i64 0), (.string ByteArray.empty), (.string ByteArray.empty), (.string ByteArray.empty), (.string ByteArray.empty)] 77)], [(b54, Cl [(.string s94.1), (.slice a86 s94.2.1.length c87), (.int .i64 s94.2.2.1), (.string s94.2.2.2.1), (.bool s94.2.2.2.2.1), (.bool s94.2.2.2.2.2.1), (.int .i64 s94.2.2.2.2.2.2.1), (.slice a89 s94.2.2.2.2.2.2.2.1.length c90), (.slice a92 s94.2.2.2.2.2.2.2.2.length c93)] 67)], L, Y151]) := hS
    have hh153 : within [(11, (.int .i64 (s94.2.2.2.2.2.2.2.1.length : Int)))] σ := ⟨hs 11 _ rfl rfl, trivial⟩
    refine rg_head hh153 ?_
    have hle := KM.le.refl K150
    refine s_v rfl rfl rfl ?_
    refine s_nil ?_
    exact hX _ _ _ _ _ hh153 hle ⟨rfl, rfl⟩ hS.nilG
  rintro K246 w _ _ hk247 hO hS
  obtain ⟨_, _, _, _, _, rfl, rfl, hk248, ⟨a243, c244, rfl, hr245, rfl⟩, hO⟩ := hO
  obtain ⟨_, _, _, _, _, rfl, rfl, hk249, ⟨a234, c235, rfl, hr236, rfl⟩, hO⟩ := hO
  obtain ⟨_, _, _, _, _, rfl, rfl, hk250, ⟨a225, c226, rfl, hr227, rfl⟩, hO⟩ := hO
  obtain ⟨_, _, _, _, _, rfl, rfl, hk251, ⟨C215, a216, c217, rfl, h218, rfl⟩, hO⟩ := hO
  obtain ⟨_, _, _, _, _, rfl, rfl, hk252, ⟨rfl, rfl⟩, hO⟩ := hO
  obtain ⟨_, _, _, _, _, rfl, rfl, hk253, ⟨C194, a195, c196, rfl, h197, rfl⟩, hO⟩ := hO
  obtain ⟨_, _, _, _, _, rfl, rfl, hk254, ⟨rfl, rfl⟩, hO⟩ := hO
  obtain ⟨_, _, _, _, _, rfl, rfl, hk255, ⟨rfl, rfl⟩, hO⟩ := hO
  obtain ⟨_, _, _, _, _, rfl, rfl, hk256, ⟨C167, a168, c169, rfl, h170, rfl⟩, hO⟩ := hO
  obtain ⟨_, _, _, _, _, rfl, rfl, hk257, ⟨rfl, rfl⟩, hO⟩ := hO
  obtain ⟨rfl, rfl⟩ := hO
  obtain ⟨rfl, rfl⟩ := lnk_s2 (show some _ = some _ from hr227)
  obtain ⟨rfl, rfl⟩ := lnk_s2 (show some _ = some _ from hr236)
  obtain ⟨rfl, rfl⟩ := lnk_s2 (show some _ = some _ from hr245)
  replace hS : Sat w K246 (flat [C215, C194, C167, [(b130, Cl [(.int .i64 6), (.int .i32 0), (.int .i64 0), (.string ByteArray.empty), (.string ByteArray.empty), (.string ByteArray.empty), (.string ByteArray.empty)] 77)], [(b128, Cl [(.int .i64 3), (.int .i32 0), (.int .i64 0), (.string ByteArray.empty), (.string ByteArray.empty), (.string ByteArray.empty), (.string ByteArray.empty)] 77)], [(b54, Cl [(.string s94.1), (.slice a86 s94.2.1.length c87), (.int .i64 s94.2.2.1), (.string s94.2.2.2.1), (.bool s94.2.2.2.2.1), (.bool s94.2.2.2.2.2.1), (.int .i64 s94.2.2.2.2.2.2.1), (.slice a89 s94.2.2.2.2.2.2.2.1.length c90), (.slice a92 s94.2.2.2.2.2.2.2.2.length c93)] 67)], L]) := hS.sel [3, 5, 8, 10, 11, 12, 13] rfl
  refine At.weaken [(10, (.pointer (some ⟨b54, 0, none⟩))), (11, (.int .i64 (s94.2.2.2.2.2.2.2.1.length : Int))), (12, (.int .i64 (Int.tmod (w64 p6) (s94.2.2.2.2.2.2.2.1.length : Int)))), (13, (.int .i64 (Int.tmod (w64 p7) (s94.2.2.2.2.2.2.2.1.length : Int)))), (14, (.pointer (some ⟨b128, 0, none⟩))), (15, (.pointer (some ⟨b130, 0, none⟩))), (18, (.slice a216 ((List.replicate (s94.2.2.2.2.2.2.2.1.length : Int).toNat (GoZero.zero 64 (α := (List api_Instr)))).length) c217)), (17, (.slice a195 ((List.replicate (w64 ((s94.2.2.2.2.2.2.2.1.length : Int) + 2)).toNat (GoZero.zero 64 (α := (List api_Instr)))).length) c196)), (16, (.slice a168 ((List.replicate (s94.2.2.2.2.2.2.2.1.length : Int).toNat (GoZero.zero 64 (α := (List api_Instr)))).length) c169))] ⟨rfl, rfl, rfl, rfl, rfl, rfl, rfl, rfl, rfl, trivial⟩ ?_
  refine d_on [] [] hS ?_
  refine d_end (by kernel_rfl) ?_
  refine qn (s_seq ?_)
  refine d_start [3, 4, 5] [(11, [2])] hS ?_
  intro w hS
  refine d_v 0 (fun _ _ _ _ _ h => h) [3, 4, 5] hS rfl rfl rfl (by kernel_rfl) rfl rfl ?_
  refine d_v 1 (fun _ _ _ _ _ h => h) [3, 4, 5] hS rfl rfl rfl (by kernel_rfl) rfl rfl ?_
  refine d_ld (v := (.agg #[(.int .i64 3), (.int .i32 0), (.int .i64 0), (.string ByteArray.empty), (.string ByteArray.empty), (.string ByteArray.empty), (.string ByteArray.empty)])) 2 1 (fun _ _ _ _ _ h => h) [3, 4, 5] hS rfl rfl rfl rfl rfl (by kernel_rfl) rfl rfl ?_
  refine d_ld (v := (.agg #[(.int .i64 6), (.int .i32 0), (.int .i64 0), (.string ByteArray.empty), (.string ByteArray.empty), (.string ByteArray.empty), (.string ByteArray.empty)])) 3 0 (fun _ _ _ _ _ h => h) [3, 4, 5] hS rfl rfl rfl rfl rfl (by kernel_rfl) rfl rfl ?_
  refine d_v 4 (fun _ _ _ _ _ h => h) [3, 4, 5] hS rfl rfl rfl (by kernel_rfl) rfl rfl ?_
  refine d_ld 5 2 (fun _ _ _ _ _ h => h) [3, 4, 5] hS rfl rfl rfl rfl rfl (by kernel_rfl) rfl rfl ?_
  refine d_v 6 (fun _ _ _ _ _ h => h) [3, 4, 5] hS rfl rfl rfl (by kernel_rfl) rfl rfl ?_
  obtain ⟨x283, hx284, hf⟩ := Option.bind_eq_some_iff.1 hf
  replace h88 := h88.mono hk247
  refine d_ixk 7 (fun _ _ _ _ _ h => h) [3, 4, 5] hS h88 rfl hx284 rfl rfl rfl rfl rfl rfl rfl (by kernel_rfl) rfl rfl ?_
  rintro b285 o286 _ rfl h287
  refine d_ldk (v := (.agg #[(.int .i64 x283.Op), (.int .i32 x283.N), (.int .i64 x283.K), (.string x283.S), (.string x283.Class), (.string x283.Name), (.string x283.Desc)])) 8 0 (fun _ _ _ _ _ h => h) [3, 4, 5] hS h287 rfl rfl rfl rfl (by kernel_rfl) rfl rfl ?_
  refine d_op 9 rfl (by kernel_rfl) (by kernel_rfl) (fun X hX => ?_)
  have hlq := KM.le.refl K246
  refine s_bwc (cs := [(.int .i64 3), (.int .i32 0), (.int .i64 0), (.string ByteArray.empty), (.string ByteArray.empty), (.string ByteArray.empty), (.string ByteArray.empty), (.int .i64 6), (.int .i32 0), (.int .i64 0), (.string ByteArray.empty), (.string ByteArray.empty), (.string ByteArray.empty), (.string ByteArray.empty), (.int .i64 x283.Op), (.int .i32 x283.N), (.int .i64 x283.K), (.string x283.S), (.string x283.Class), (.string x283.Name), (.string x283.Desc)]) hS rfl rfl rfl rfl rfl rfl rfl rfl rfl rfl ?_
  intro b288 w hS
  refine d_go [4, 5, 6] [4, 5, 6] [(11, [3])] [some 0] hX hS hlq rfl rfl ⟨rfl, trivial⟩ ?_
  obtain ⟨x290, hx291, hf⟩ := Option.bind_eq_some_iff.1 hf
  replace h170 := h170.mono hk256
  refine d_ixo 10 3 (fun _ _ _ _ _ h => h) [4, 5, 6] hS rfl h170 hx291 rfl rfl rfl rfl rfl rfl rfl (by kernel_rfl) rfl rfl ?_
  intro b295 l296 cs299 l297 hcs_ hC300 hun298
  obtain ⟨a292, c293, rfl, h294⟩ := hcs_
  subst hC300
  have hq301 := KM.le.refl K246
  refine d_op 11 rfl (by kernel_rfl) (by kernel_rfl) (fun X hX => ?_)
  have hlq := KM.le.refl K246
  have h302 : OwnS 77 K246 (.slice (some ⟨b288, 0, none⟩) 3 3) [(api_Instr.mk 3 0 0 ByteArray.empty ByteArray.empty ByteArray.empty ByteArray.empty), (api_Instr.mk 6 0 0 ByteArray.empty ByteArray.empty ByteArray.empty ByteArray.empty), x283] [(b288, Cl [(.int .i64 3), (.int .i32 0), (.int .i64 0), (.string ByteArray.empty), (.string ByteArray.empty), (.string ByteArray.empty), (.string ByteArray.empty), (.int .i64 6), (.int .i32 0), (.int .i64 0), (.string ByteArray.empty), (.string ByteArray.empty), (.string ByteArray.empty), (.string ByteArray.empty), (.int .i64 x283.Op), (.int .i32 x283.N), (.int .i64 x283.K), (.string x283.S), (.string x283.Class), (.string x283.Name), (.string x283.Desc)] 77)] := OwnS.lit ⟨[(.int .i64 3), (.int .i32 0), (.int .i64 0), (.string ByteArray.empty), (.string ByteArray.empty), (.string ByteArray.empty), (.string ByteArray.empty)], _, rfl, rfl, ⟨[(.int .i64 6), (.int .i32 0), (.int .i64 0), (.string ByteArray.empty), (.string ByteArray.empty), (.string ByteArray.empty), (.string ByteArray.empty)], _, rfl, rfl, ⟨[(.int .i64 x283.Op), (.int .i32 x283.N), (.int .i64 x283.K), (.string x283.S), (.string x283.Class), (.string x283.Name), (.string x283.Desc)], _, rfl, rfl, rfl⟩⟩⟩ rfl rfl
  obtain ⟨K303, hk304, h305, hS⟩ := h302.freeze (hS.sel [0, 1, 2, 3, 4, 5, 6, 7] rfl)
  replace hS : Sat w _ (flat [_, _, _, _, _, _, _]) := hS
  refine s_stm (cs' := [(.slice (some ⟨b288, 0, none⟩) 3 3)]) 2 0 hS rfl rfl rfl rfl rfl ?_
  intro w hS
  replace hS : Sat w _ (flat [_, _, _, _, _, _, _]) := hS
  replace hq301 := hq301.trans hk304
  have h306 := hun298 K303 _ _ hq301 (show GoData.cells 64 _ [(api_Instr.mk 3 0 0 ByteArray.empty ByteArray.empty ByteArray.empty ByteArray.empty), (api_Instr.mk 6 0 0 ByteArray.empty ByteArray.empty ByteArray.empty ByteArray.empty), x283] _ from ⟨(some ⟨b288, 0, none⟩), 3, rfl, h305⟩)
  have hl307 := OwnS.len h306
  replace hlq := hlq.trans hk304
  refine d_go [3, 4, 5] [2, 3, 4, 5] [] [none] hX hS hlq rfl rfl ⟨rfl, trivial⟩ ?_
  refine d_end (by kernel_rfl) ?_
  refine qn (s_seq (s_reg ?_))
  iterate 4 refine s_v rfl rfl rfl ?_
  generalize hCg_ : ([(b295, Cl (l296 ++ (([(.slice (some ⟨b288, 0, none⟩) 3 3)] : List Value) ++ l297)) 64)] : Chunks) = C308 at hS h306
  clear hCg_
  obtain ⟨x309, hx310, hf⟩ := Option.bind_eq_some_iff.1 hf
  refine s_ixo 2 hS rfl h306 hx310 rfl rfl rfl rfl rfl rfl rfl ?_
  intro b314 l315 cs318 l316 hcs_ hC319 hun317
  obtain ⟨a311, c312, rfl, h313⟩ := hcs_
  subst hC319
  have hq320 := KM.le.refl K303
  refine s_ldm 2 0 hS rfl rfl rfl rfl rfl ?_
  obtain ⟨x321, hx322, hf⟩ := Option.bind_eq_some_iff.1 hf
  replace h218 := h218.mono (hk251.trans hk304)
  refine s_ixo 0 hS rfl h218 hx322 rfl rfl rfl rfl rfl rfl rfl ?_
  intro b326 l327 cs330 l328 hcs_ hC331 hun329
  obtain ⟨a323, c324, rfl, h325⟩ := hcs_
  subst hC331
  have hq332 := KM.le.refl K303
  refine s_stm (cs' := [(.slice a311 x309.length c312)]) 0 0 hS rfl rfl rfl rfl rfl ?_
  intro w hS
  replace hS : Sat w _ (flat [_, _, _, _, _, _, _]) := hS
  have h333 := hun329 K303 _ _ hq332 (show GoData.cells 64 _ x309 _ from ⟨a311, c312, rfl, h313⟩)
  have hl334 := OwnS.len h333
  refine s_nil (qn (s_seq ?_))
  refine d_start [3, 4, 5] [(11, [0])] hS ?_
  intro w hS
  refine d_v 0 (fun _ _ _ _ _ h => h) [3, 4, 5] hS rfl rfl rfl (by kernel_rfl) rfl rfl ?_
  refine d_v 1 (fun _ _ _ _ _ h => h) [3, 4, 5] hS rfl rfl rfl (by kernel_rfl) rfl rfl ?_
  refine d_ld (v := (.agg #[(.int .i64 3), (.int .i32 0), (.int .i64 0), (.string ByteArray.empty), (.string ByteArray.empty), (.string ByteArray.empty), (.string ByteArray.empty)])) 2 1 (fun _ _ _ _ _ h => h) [3, 4, 5] hS rfl rfl rfl rfl rfl (by kernel_rfl) rfl rfl ?_
  refine d_ld (v := (.agg #[(.int .i64 6), (.int .i32 0), (.int .i64 0), (.string ByteArray.empty), (.string ByteArray.empty), (.string ByteArray.empty), (.string ByteArray.empty)])) 3 0 (fun _ _ _ _ _ h => h) [3, 4, 5] hS rfl rfl rfl rfl rfl (by kernel_rfl) rfl rfl ?_
  refine d_v 4 (fun _ _ _ _ _ h => h) [3, 4, 5] hS rfl rfl rfl (by kernel_rfl) rfl rfl ?_
  refine d_ld 5 2 (fun _ _ _ _ _ h => h) [3, 4, 5] hS rfl rfl rfl rfl rfl (by kernel_rfl) rfl rfl ?_
  refine d_v 6 (fun _ _ _ _ _ h => h) [3, 4, 5] hS rfl rfl rfl (by kernel_rfl) rfl rfl ?_
  obtain ⟨x361, hx362, hf⟩ := Option.bind_eq_some_iff.1 hf
  replace h88 := h88.mono hk304
  refine d_ixk 7 (fun _ _ _ _ _ h => h) [3, 4, 5] hS h88 rfl hx362 rfl rfl rfl rfl rfl rfl rfl (by kernel_rfl) rfl rfl ?_
  rintro b363 o364 _ rfl h365
  refine d_ldk (v := (.agg #[(.int .i64 x361.Op), (.int .i32 x361.N), (.int .i64 x361.K), (.string x361.S), (.string x361.Class), (.string x361.Name), (.string x361.Desc)])) 8 0 (fun _ _ _ _ _ h => h) [3, 4, 5] hS h365 rfl rfl rfl rfl (by kernel_rfl) rfl rfl ?_
  refine d_op 9 rfl (by kernel_rfl) (by kernel_rfl) (fun X hX => ?_)
  have hlq := KM.le.refl K303
  refine s_bwc (cs := [(.int .i64 3), (.int .i32 0), (.int .i64 0), (.string ByteArray.empty), (.string ByteArray.empty), (.string ByteArray.empty), (.string ByteArray.empty), (.int .i64 6), (.int .i32 0), (.int .i64 0), (.string ByteArray.empty), (.string ByteArray.empty), (.string ByteArray.empty), (.string ByteArray.empty), (.int .i64 x361.Op), (.int .i32 x361.N), (.int .i64 x361.K), (.string x361.S), (.string x361.Class), (.string x361.Name), (.string x361.Desc)]) hS rfl rfl rfl rfl rfl rfl rfl rfl rfl rfl ?_
  intro b366 w hS
  refine d_go [4, 5, 6] [4, 5, 6] [(11, [1])] [some 0] hX hS hlq rfl rfl ⟨rfl, trivial⟩ ?_
  generalize hCg_ : ([(b326, Cl (l327 ++ (([(.slice a311 x309.length c312)] : List Value) ++ l328)) 64)] : Chunks) = C368 at hS h333 ⊢
  clear hCg_
  obtain ⟨x369, hx370, hf⟩ := Option.bind_eq_some_iff.1 hf
  refine d_ixo 10 1 (fun _ _ _ _ _ h => h) [4, 5, 6] hS rfl h333 hx370 rfl rfl rfl rfl rfl rfl rfl (by kernel_rfl) rfl rfl ?_
  intro b374 l375 cs378 l376 hcs_ hC379 hun377
  obtain ⟨a371, c372, rfl, h373⟩ := hcs_
  subst hC379
  have hq380 := KM.le.refl K303
  refine d_op 11 rfl (by kernel_rfl) (by kernel_rfl) (fun X hX => ?_)
  have hlq := KM.le.refl K303
  have h381 : OwnS 77 K303 (.slice (some ⟨b366, 0, none⟩) 3 3) [(api_Instr.mk 3 0 0 ByteArray.empty ByteArray.empty ByteArray.empty ByteArray.empty), (api_Instr.mk 6 0 0 ByteArray.empty ByteArray.empty ByteArray.empty ByteArray.empty), x361] [(b366, Cl [(.int .i64 3), (.int .i32 0), (.int .i64 0), (.string ByteArray.empty), (.string ByteArray.empty), (.string ByteArray.empty), (.string ByteArray.empty), (.int .i64 6), (.int .i32 0), (.int .i64 0), (.string ByteArray.empty), (.string ByteArray.empty), (.string ByteArray.empty), (.string ByteArray.empty), (.int .i64 x361.Op), (.int .i32 x361.N), (.int .i64 x361.K), (.string x361.S), (.string x361.Class), (.string x361.Name), (.string x361.Desc)] 77)] := OwnS.lit ⟨[(.int .i64 3), (.int .i32 0), (.int .i64 0), (.string ByteArray.empty), (.string ByteArray.empty), (.string ByteArray.empty), (.string ByteArray.empty)], _, rfl, rfl, ⟨[(.int .i64 6), (.int .i32 0), (.int .i64 0), (.string ByteArray.empty), (.string ByteArray.empty), (.string ByteArray.empty), (.string ByteArray.empty)], _, rfl, rfl, ⟨[(.int .i64 x361.Op), (.int .i32 x361.N), (.int .i64 x361.K), (.string x361.S), (.string x361.Class), (.string x361.Name), (.string x361.Desc)], _, rfl, rfl, rfl⟩⟩⟩ rfl rfl
  obtain ⟨K382, hk383, h384, hS⟩ := h381.freeze (hS.sel [0, 1, 2, 3, 4, 5, 6, 7] rfl)
  replace hS : Sat w _ (flat [_, _, _, _, _, _, _]) := hS
  refine s_stm (cs' := [(.slice (some ⟨b366, 0, none⟩) 3 3)]) 0 0 hS rfl rfl rfl rfl rfl ?_
  intro w hS
  replace hS : Sat w _ (flat [_, _, _, _, _, _, _]) := hS
  replace hq380 := hq380.trans hk383
  have h385 := hun377 K382 _ _ hq380 (show GoData.cells 64 _ [(api_Instr.mk 3 0 0 ByteArray.empty ByteArray.empty ByteArray.empty ByteArray.empty), (api_Instr.mk 6 0 0 ByteArray.empty ByteArray.empty ByteArray.empty ByteArray.empty), x361] _ from ⟨(some ⟨b366, 0, none⟩), 3, rfl, h384⟩)
  have hl386 := OwnS.len h385
  replace hlq := hlq.trans hk383
  refine d_go [3, 4, 5] [0, 3, 4, 5] [] [none] hX hS hlq rfl rfl ⟨rfl, trivial⟩ ?_
  refine d_end (by kernel_rfl) ?_
  refine qn (s_seq (s_reg ?_))
  refine s_ld (v := (.agg #[(.string s94.1), (.slice a86 s94.2.1.length c87), (.int .i64 s94.2.2.1), (.string s94.2.2.2.1), (.bool s94.2.2.2.2.1), (.bool s94.2.2.2.2.2.1), (.int .i64 s94.2.2.2.2.2.2.1), (.slice a89 s94.2.2.2.2.2.2.2.1.length c90), (.slice a92 s94.2.2.2.2.2.2.2.2.length c93)])) 5 hS rfl rfl rfl rfl rfl ?_
  refine s_v rfl rfl rfl ?_
  replace h306 := h306.mono hk383
  obtain ⟨K387, hk388, h389, hS⟩ := h306.freeze (hS.sel [2, 0, 1, 3, 4, 5, 6] rfl)
  replace hS : Sat w _ (flat [_, _, _, _, _, _]) := hS
  obtain ⟨x390, hx391, hf⟩ := Option.bind_eq_some_iff.1 hf
  have hkk0 := ((hk247.trans hk304).trans hk383).trans hk388
  replace h85 := h85.mono hkk0
  replace h91 := h91.mono hkk0
  replace h88 := h88.mono (hk383.trans hk388)
  refine s_call isf33 hS.nilG (rewrite_Method_spec hx391 h85 h88 h91 h389) (by (try rw [hl307]); rfl) rfl rfl ?_
  rintro _ K392 _ w hk393 ⟨a395, c396, a398, c399, a401, c402, C404, C405, rfl, h397, h400, h403, rfl⟩ hS
  replace hS := hS.open2
  iterate 3 refine s_v rfl rfl rfl ?_
  refine s_al hS rfl rfl rfl ?_
  intro b408 w hS
  replace hS : Sat w K392 (flat ([(b408, Cl [(.string ByteArray.empty), (.slice none 0 0), (.int .i64 0), (.string ByteArray.empty), (.bool false), (.bool false), (.int .i64 0), (.slice none 0 0), (.slice none 0 0)] 67)] :: _)) := hS
  refine s_st (cs' := [(.string x390.1.Name), (.slice a395 x390.1.Params.length c396), (.int .i64 x390.1.Ret.Kind), (.string x390.1.Ret.Class), (.bool x390.1.Static), (.bool x390.1.Abstract), (.int .i64 x390.1.Locals), (.slice a398 x390.1.Code.length c399), (.slice a401 x390.1.Handlers.length c402)]) 0 hS rfl rfl rfl rfl rfl ?_
  intro w hS
  replace hS : Sat w _ (flat [_, _, _, _, _, _, _, _, _]) := hS
  refine s_v rfl rfl rfl ?_
  refine s_nil (qn (s_seq (s_seq (s_reg ?_))))
  iterate 3 refine s_v rfl rfl rfl ?_
  obtain ⟨s435, hst436, hf⟩ := Option.bind_eq_some_iff.1 hf
  have hkk1 := hkk0.trans hk393
  have hkk2 := (((hk253.trans hk304).trans hk383).trans hk388).trans hk393
  refine r_cut [_, _, _, _, _, _, _] (fun τ w => ∃ (K410 : KM) (a415 : Option Addr) (c416 : Nat) (C417 : Chunks) (a420 : Option Addr) (c421 : Nat) (C422 : Chunks) (a426 : Option Addr) (c427 : Nat) (C428 : Chunks) (a431 : Option Addr) (c432 : Nat) (C433 : Chunks), τ = [(10, (.pointer (some ⟨b54, 0, none⟩))), (13, (.int .i64 s435.1)), (14, (.pointer (some ⟨b128, 0, none⟩))), (15, (.pointer (some ⟨b130, 0, none⟩))), (17, (.slice a415 s435.2.1.length c416)), (18, (.slice a420 s435.2.2.1.length c421)), (19, (.pointer (some ⟨b408, 0, none⟩))), (122, (.bool s435.2.2.2))] ∧ KM.le K K410 ∧ SlK 63 K410 a86 c87 s94.2.1 ∧ SlK 77 K410 a89 c90 s94.2.2.2.2.2.2.2.1 ∧ SlK 92 K410 a92 c93 s94.2.2.2.2.2.2.2.2 ∧ OwnS 64 K410 (.slice a415 s435.2.1.length c416) s435.2.1 C417 ∧ OwnS 64 K410 (.slice a420 s435.2.2.1.length c421) s435.2.2.1 C422 ∧ SlK 63 K410 a395 c396 x390.1.Params ∧ OwnS 77 K410 (.slice a426 x390.1.Code.length c427) x390.1.Code C428 ∧ OwnS 92 K410 (.slice a431 x390.1.Handlers.length c432) x390.1.Handlers C433 ∧ Sat w K410 (flat [[(b54, Cl [(.string s94.1), (.slice a86 s94.2.1.length c87), (.int .i64 s94.2.2.1), (.string s94.2.2.2.1), (.bool s94.2.2.2.2.1), (.bool s94.2.2.2.2.2.1), (.int .i64 s94.2.2.2.2.2.2.1), (.slice a89 s94.2.2.2.2.2.2.2.1.length c90), (.slice a92 s94.2.2.2.2.2.2.2.2.length c93)] 67)], [(b128, Cl [(.int .i64 3), (.int .i32 0), (.int .i64 0), (.string ByteArray.empty), (.string ByteArray.empty), (.string ByteArray.empty), (.string ByteArray.empty)] 77)], [(b130, Cl [(.int .i64 6), (.int .i32 0), (.int .i64 0), (.string ByteArray.empty), (.string ByteArray.empty), (.string ByteArray.empty), (.string ByteArray.empty)] 77)], C417, C422, [(b408, Cl [(.string x390.1.Name), (.slice a395 x390.1.Params.length c396), (.int .i64 x390.1.Ret.Kind), (.string x390.1.Ret.Class), (.bool x390.1.Static), (.bool x390.1.Abstract), (.int .i64 x390.1.Locals), (.slice a426 x390.1.Code.length c427), (.slice a431 x390.1.Handlers.length c432)] 67)], C428, C433, L])) rfl (fun J hJ => ?_) ?_
  · replace hf := hst436
    cases hc : (!x390.2)
    · replace hf := bif_f hc hf
      refine s_v rfl rfl rfl ?_
      refine s_ld 0 hS rfl rfl rfl rfl rfl ?_
      iterate 5 refine s_v rfl rfl rfl ?_
      have hq := Option.some.inj hf
      subst hq
      replace hle := hle.trans hkk1
      replace h197 := h197.mono hkk2
      replace h385 := h385.mono (hk388.trans hk393)
      replace h85 := h85.mono hk393
      replace h88 := h88.mono hk393
      replace h91 := h91.mono hk393
      refine r_join hJ _ ⟨K392, a195, c196, C194, a216, c217, [(b374, Cl (l375 ++ (([(.slice (some ⟨b366, 0, none⟩) 3 3)] : List Value) ++ l376)) 64)], a398, c399, C404, a401, c402, C405, rfl, hle, h85, h88, h91, h197, (OwnS.norm h385), h397, h400, h403, (by (try rw [hl386]); exact (hS.sel [7, 6, 5, 4, 3, 0, 1, 2, 8] rfl))⟩ ⟨rfl, rfl, rfl, rfl, rfl, (by rw [hl386]; rfl), rfl, rfl, trivial⟩
    replace hf := bif_t hc hf
    refine s_no rfl rfl ?_
    refine s_no rfl rfl ?_
    refine s_no rfl rfl ?_
    refine s_no rfl rfl ?_
    refine s_no rfl rfl ?_
    refine s_no rfl rfl ?_
    refine s_v rfl rfl rfl ?_
    have hq := Option.some.inj hf
    subst hq
    replace hle := hle.trans hkk1
    replace h197 := h197.mono hkk2
    replace h385 := h385.mono (hk388.trans hk393)
    replace h85 := h85.mono hk393
    replace h88 := h88.mono hk393
    replace h91 := h91.mono hk393
    refine r_join hJ _ ⟨K392, a195, c196, C194, a216, c217, [(b374, Cl (l375 ++ (([(.slice (some ⟨b366, 0, none⟩) 3 3)] : List Value) ++ l376)) 64)], a398, c399, C404, a401, c402, C405, rfl, hle, h85, h88, h91, h197, (OwnS.norm h385), h397, h400, h403, (by (try rw [hl386]); exact (hS.sel [7, 6, 5, 4, 3, 0, 1, 2, 8] rfl))⟩ ⟨rfl, rfl, rfl, rfl, rfl, (by rw [hl386]; rfl), rfl, rfl, trivial⟩
  rintro _ w ⟨K410, a415, c416, C417, a420, c421, C422, a426, c427, C428, a431, c432, C433, rfl, hle, h411, h412, h413, h414, h419, h424, h425, h430, hS⟩
  refine s_nil (qn ?_)
  refine s_if rfl (fun hc => ?_) (fun hc => ?_)
  · replace hf := bif_t hc hf
    refine s_seq (s_reg ?_)
    refine s_v rfl rfl rfl ?_
    refine s_nil (qn ?_)
    replace hS : Sat w K410 (flat [_]) := (hS.sel [8] rfl)
    refine s_rets (qrt ?_)
    have hq := Option.some.inj hf
    subst hq
    refine s_ret1 rfl (rv_t rfl) ?_
    exact ⟨K410, _, hle, rfl, Sat.nilG (hS.sel [0] rfl)⟩
  replace hf := bif_f hc hf
  refine s_skip (qn (s_seq ?_))
  refine d_start [1, 2, 5, 6] [(13, [3])] hS ?_
  intro w hS
  refine d_v 0 (fun _ _ _ _ _ h => h) [1, 2, 5, 6] hS rfl rfl rfl (by kernel_rfl) rfl rfl ?_
  refine d_v 1 (fun _ _ _ _ _ h => h) [1, 2, 5, 6] hS rfl rfl rfl (by kernel_rfl) rfl rfl ?_
  refine d_v 2 (fun _ _ _ _ _ h => h) [1, 2, 5, 6] hS rfl rfl rfl (by kernel_rfl) rfl rfl ?_
  refine d_ld (v := (.agg #[(.int .i64 3), (.int .i32 0), (.int .i64 0), (.string ByteArray.empty), (.string ByteArray.empty), (.string ByteArray.empty), (.string ByteArray.empty)])) 3 0 (fun _ _ _ _ _ h => h) [1, 2, 5, 6] hS rfl rfl rfl rfl rfl (by kernel_rfl) rfl rfl ?_
  refine d_ld (v := (.agg #[(.int .i64 6), (.int .i32 0), (.int .i64 0), (.string ByteArray.empty), (.string ByteArray.empty), (.string ByteArray.empty), (.string ByteArray.empty)])) 4 1 (fun _ _ _ _ _ h => h) [1, 2, 5, 6] hS rfl rfl rfl rfl rfl (by kernel_rfl) rfl rfl ?_
  refine d_v 5 (fun _ _ _ _ _ h => h) [1, 2, 5, 6] hS rfl rfl rfl (by kernel_rfl) rfl rfl ?_
  refine d_ld 6 2 (fun _ _ _ _ _ h => h) [1, 2, 5, 6] hS rfl rfl rfl rfl rfl (by kernel_rfl) rfl rfl ?_
  refine d_v 7 (fun _ _ _ _ _ h => h) [1, 2, 5, 6] hS rfl rfl rfl (by kernel_rfl) rfl rfl ?_
  refine d_v 8 (fun _ _ _ _ _ h => h) [1, 2, 5, 6] hS rfl rfl rfl (by kernel_rfl) rfl rfl ?_
  obtain ⟨x466, hx467, hf⟩ := Option.bind_eq_some_iff.1 hf
  refine d_ixo 9 6 (fun _ _ _ _ _ h => h) [1, 2, 5, 6] hS rfl h425 hx467 rfl rfl rfl rfl rfl rfl rfl (by kernel_rfl) rfl rfl ?_
  intro b468 l469 cs472 l470 hcs_ hC473 hun471
  obtain rfl := hcs_
  subst hC473
  have hq474 := KM.le.refl K410
  refine d_ldm (v := (.agg #[(.int .i64 x466.Op), (.int .i32 x466.N), (.int .i64 x466.K), (.string x466.S), (.string x466.Class), (.string x466.Name), (.string x466.Desc)])) 10 3 0 (fun _ _ _ _ _ h => h) [1, 2, 5, 6] hS rfl rfl rfl rfl rfl (by kernel_rfl) rfl rfl ?_
  refine d_op 11 rfl (by kernel_rfl) (by kernel_rfl) (fun X hX => ?_)
  have hlq := KM.le.refl K410
  refine s_bwc (cs := [(.int .i64 3), (.int .i32 0), (.int .i64 0), (.string ByteArray.empty), (.string ByteArray.empty), (.string ByteArray.empty), (.string ByteArray.empty), (.int .i64 6), (.int .i32 0), (.int .i64 0), (.string ByteArray.empty), (.string ByteArray.empty), (.string ByteArray.empty), (.string ByteArray.empty), (.int .i64 x466.Op), (.int .i32 x466.N), (.int .i64 x466.K), (.string x466.S), (.string x466.Class), (.string x466.Name), (.string x466.Desc)]) hS rfl rfl rfl rfl rfl rfl rfl rfl rfl rfl ?_
  intro b475 w hS
  refine d_go [2, 3, 6, 7] [2, 3, 6, 7] [(13, [4])] [some 0] hX hS hlq rfl rfl ⟨rfl, trivial⟩ ?_
  obtain ⟨x477, hx478, hf⟩ := Option.bind_eq_some_iff.1 hf
  refine d_ixo 12 4 (fun _ _ _ _ _ h => h) [2, 3, 6, 7] hS rfl h414 hx478 rfl rfl rfl rfl rfl rfl rfl (by kernel_rfl) rfl rfl ?_
  intro b482 l483 cs486 l484 hcs_ hC487 hun485
  obtain ⟨a479, c480, rfl, h481⟩ := hcs_
  subst hC487
  have hq488 := KM.le.refl K410
  refine d_op 13 rfl (by kernel_rfl) (by kernel_rfl) (fun X hX => ?_)
  have hlq := KM.le.refl K410
  have h489 : OwnS 77 K410 (.slice (some ⟨b475, 0, none⟩) 3 3) [(api_Instr.mk 3 0 0 ByteArray.empty ByteArray.empty ByteArray.empty ByteArray.empty), (api_Instr.mk 6 0 0 ByteArray.empty ByteArray.empty ByteArray.empty ByteArray.empty), x466] [(b475, Cl [(.int .i64 3), (.int .i32 0), (.int .i64 0), (.string ByteArray.empty), (.string ByteArray.empty), (.string ByteArray.empty), (.string ByteArray.empty), (.int .i64 6), (.int .i32 0), (.int .i64 0), (.string ByteArray.empty), (.string ByteArray.empty), (.string ByteArray.empty), (.string ByteArray.empty), (.int .i64 x466.Op), (.int .i32 x466.N), (.int .i64 x466.K), (.string x466.S), (.string x466.Class), (.string x466.Name), (.string x466.Desc)] 77)] := OwnS.lit ⟨[(.int .i64 3), (.int .i32 0), (.int .i64 0), (.string ByteArray.empty), (.string ByteArray.empty), (.string ByteArray.empty), (.string ByteArray.empty)], _, rfl, rfl, ⟨[(.int .i64 6), (.int .i32 0), (.int .i64 0), (.string ByteArray.empty), (.string ByteArray.empty), (.string ByteArray.empty), (.string ByteArray.empty)], _, rfl, rfl, ⟨[(.int .i64 x466.Op), (.int .i32 x466.N), (.int .i64 x466.K), (.string x466.S), (.string x466.Class), (.string x466.Name), (.string x466.Desc)], _, rfl, rfl, rfl⟩⟩⟩ rfl rfl
  obtain ⟨K490, hk491, h492, hS⟩ := h489.freeze (hS.sel [0, 1, 2, 3, 4, 5, 6, 7, 8, 9] rfl)
  replace hS : Sat w _ (flat [_, _, _, _, _, _, _, _, _]) := hS
  refine s_stm (cs' := [(.slice (some ⟨b475, 0, none⟩) 3 3)]) 3 0 hS rfl rfl rfl rfl rfl ?_
  intro w hS
  replace hS : Sat w _ (flat [_, _, _, _, _, _, _, _, _]) := hS
  replace hq488 := hq488.trans hk491
  have h493 := hun485 K490 _ _ hq488 (show GoData.cells 64 _ [(api_Instr.mk 3 0 0 ByteArray.empty ByteArray.empty ByteArray.empty ByteArray.empty), (api_Instr.mk 6 0 0 ByteArray.empty ByteArray.empty ByteArray.empty ByteArray.empty), x466] _ from ⟨(some ⟨b475, 0, none⟩), 3, rfl, h492⟩)
  have hl494 := OwnS.len h493
  replace hlq := hlq.trans hk491
  refine d_go [1, 2, 5, 6] [1, 2, 3, 5, 6] [] [none] hX hS hlq rfl rfl ⟨rfl, trivial⟩ ?_
  refine d_end (by kernel_rfl) ?_
  refine qn ?_
  replace hS : Sat w K490 (flat [_, _, _, _, _, _, _]) := (hS.sel [0, 3, 4, 5, 6, 7, 8] rfl)
  refine s_seq (s_reg ?_)
  refine s_ld (v := (.agg #[(.string x390.1.Name), (.slice a395 x390.1.Params.length c396), (.int .i64 x390.1.Ret.Kind), (.string x390.1.Ret.Class), (.bool x390.1.Static), (.bool x390.1.Abstract), (.int .i64 x390.1.Locals), (.slice a426 x390.1.Code.length c427), (.slice a431 x390.1.Handlers.length c432)])) 3 hS rfl rfl rfl rfl rfl ?_
  refine s_v rfl rfl rfl ?_
  replace h425 := h425.mono hk491
  obtain ⟨K495, hk496, h497, hS⟩ := h425.freeze (hS.sel [4, 0, 1, 2, 3, 5, 6] rfl)
  replace hS : Sat w _ (flat [_, _, _, _, _, _]) := hS
  replace h430 := h430.mono (hk491.trans hk496)
  obtain ⟨K498, hk499, h500, hS⟩ := h430.freeze (hS.sel [4, 0, 1, 2, 3, 5] rfl)
  replace hS : Sat w _ (flat [_, _, _, _, _]) := hS
  replace h493 := h493.mono (hk496.trans hk499)
  obtain ⟨K501, hk502, h503, hS⟩ := h493.freeze (hS.sel [1, 0, 2, 3, 4] rfl)
  replace hS : Sat w _ (flat [_, _, _, _]) := hS
  obtain ⟨x504, hx505, hf⟩ := Option.bind_eq_some_iff.1 hf
  have hkk3 := ((hk491.trans hk496).trans hk499).trans hk502
  replace h424 := h424.mono hkk3
  replace h497 := h497.mono (hk499.trans hk502)
  replace h500 := h500.mono hk502
  refine s_call isf33 hS.nilG (rewrite_Method_spec hx505 h424 h497 h500 h503) (by (try rw [hl494]); rfl) rfl rfl ?_
  rintro _ K506 _ w hk507 ⟨a509, c510, a512, c513, a515, c516, C518, C519, rfl, h511, h514, h517, rfl⟩ hS
  replace hS := hS.open2
  iterate 3 refine s_v rfl rfl rfl ?_
  refine s_al hS rfl rfl rfl ?_
  intro b522 w hS
  replace hS : Sat w K506 (flat ([(b522, Cl [(.string ByteArray.empty), (.slice none 0 0), (.int .i64 0), (.string ByteArray.empty), (.bool false), (.bool false), (.int .i64 0), (.slice none 0 0), (.slice none 0 0)] 67)] :: _)) := hS
  refine s_st (cs' := [(.string x504.1.Name), (.slice a509 x504.1.Params.length c510), (.int .i64 x504.1.Ret.Kind), (.string x504.1.Ret.Class), (.bool x504.1.Static), (.bool x504.1.Abstract), (.int .i64 x504.1.Locals), (.slice a512 x504.1.Code.length c513), (.slice a515 x504.1.Handlers.length c516)]) 0 hS rfl rfl rfl rfl rfl ?_
  intro w hS
  replace hS : Sat w _ (flat [_, _, _, _, _, _, _]) := hS
  refine s_v rfl rfl rfl ?_
  refine s_nil (qn ?_)
  replace hS : Sat w K506 (flat [_, _, _, _, _, _]) := (hS.sel [0, 1, 2, 3, 4, 6] rfl)
  refine s_seq (s_reg ?_)
  refine s_ld (v := (.agg #[(.string s94.1), (.slice a86 s94.2.1.length c87), (.int .i64 s94.2.2.1), (.string s94.2.2.2.1), (.bool s94.2.2.2.2.1), (.bool s94.2.2.2.2.2.1), (.int .i64 s94.2.2.2.2.2.2.1), (.slice a89 s94.2.2.2.2.2.2.2.1.length c90), (.slice a92 s94.2.2.2.2.2.2.2.2.length c93)])) 3 hS rfl rfl rfl rfl rfl ?_
  refine s_v rfl rfl rfl ?_
  have hkk4 := hkk3.trans hk507
  replace h419 := h419.mono hkk4
  obtain ⟨K524, hk525, h526, hS⟩ := h419.freeze (hS.sel [4, 0, 1, 2, 3, 5] rfl)
  replace hS : Sat w _ (flat [_, _, _, _, _]) := hS
  obtain ⟨x527, hx528, hf⟩ := Option.bind_eq_some_iff.1 hf
  have hkk5 := hkk4.trans hk525
  replace h411 := h411.mono hkk5
  replace h412 := h412.mono hkk5
  replace h413 := h413.mono hkk5
  refine s_call isf33 hS.nilG (rewrite_Method_spec hx528 h411 h412 h413 h526) rfl rfl rfl ?_
  rintro _ K529 _ w hk530 ⟨a532, c533, a535, c536, a538, c539, C541, C542, rfl, h534, h537, h540, rfl⟩ hS
  replace hS := hS.open2
  iterate 3 refine s_v rfl rfl rfl ?_
  refine s_al hS rfl rfl rfl ?_
  intro b545 w hS
  replace hS : Sat w K529 (flat ([(b545, Cl [(.string ByteArray.empty), (.slice none 0 0), (.int .i64 0), (.string ByteArray.empty), (.bool false), (.bool false), (.int .i64 0), (.slice none 0 0), (.slice none 0 0)] 67)] :: _)) := hS
  refine s_st (cs' := [(.string x527.1.Name), (.slice a532 x527.1.Params.length c533), (.int .i64 x527.1.Ret.Kind), (.string x527.1.Ret.Class), (.bool x527.1.Static), (.bool x527.1.Abstract), (.int .i64 x527.1.Locals), (.slice a535 x527.1.Code.length c536), (.slice a538 x527.1.Handlers.length c539)]) 0 hS rfl rfl rfl rfl rfl ?_
  intro w hS
  replace hS : Sat w _ (flat [_, _, _, _, _, _, _, _]) := hS
  refine s_v rfl rfl rfl ?_
  refine s_nil (qn ?_)
  replace hS : Sat w K529 (flat [_, _, _, _, _, _, _]) := (hS.sel [0, 1, 2, 3, 4, 5, 7] rfl)
  refine s_seq (s_reg ?_)
  iterate 2 refine s_v rfl rfl rfl ?_
  obtain ⟨s570, hst571, hf⟩ := Option.bind_eq_some_iff.1 hf
  have hkk6 := hkk5.trans hk530
  refine r_cut [_, _] (fun τ w => ∃ (K547 : KM) (a550 : Option Addr) (c551 : Nat) (C552 : Chunks) (a555 : Option Addr) (c556 : Nat) (C557 : Chunks) (a561 : Option Addr) (c562 : Nat) (C563 : Chunks) (a566 : Option Addr) (c567 : Nat) (C568 : Chunks), τ = [(21, (.pointer (some ⟨b522, 0, none⟩))), (23, (.pointer (some ⟨b545, 0, none⟩))), (151, (.bool s570))] ∧ KM.le K K547 ∧ SlK 63 K547 a509 c510 x504.1.Params ∧ OwnS 77 K547 (.slice a550 x504.1.Code.length c551) x504.1.Code C552 ∧ OwnS 92 K547 (.slice a555 x504.1.Handlers.length c556) x504.1.Handlers C557 ∧ SlK 63 K547 a532 c533 x527.1.Params ∧ OwnS 77 K547 (.slice a561 x527.1.Code.length c562) x527.1.Code C563 ∧ OwnS 92 K547 (.slice a566 x527.1.Handlers.length c567) x527.1.Handlers C568 ∧ Sat w K547 (flat [[(b522, Cl [(.string x504.1.Name), (.slice a509 x504.1.Params.length c510), (.int .i64 x504.1.Ret.Kind), (.string x504.1.Ret.Class), (.bool x504.1.Static), (.bool x504.1.Abstract), (.int .i64 x504.1.Locals), (.slice a550 x504.1.Code.length c551), (.slice a555 x504.1.Handlers.length c556)] 67)], C552, C557, [(b545, Cl [(.string x527.1.Name), (.slice a532 x527.1.Params.length c533), (.int .i64 x527.1.Ret.Kind), (.string x527.1.Ret.Class), (.bool x527.1.Static), (.bool x527.1.Abstract), (.int .i64 x527.1.Locals), (.slice a561 x527.1.Code.length c562), (.slice a566 x527.1.Handlers.length c567)] 67)], C563, C568, L])) rfl (fun J hJ => ?_) ?_
  · replace hf := hst571
    cases hc : x504.2
    · replace hf := bif_f hc hf
      refine s_no rfl rfl ?_
      refine s_v rfl rfl rfl ?_
      have hq := Option.some.inj hf
      subst hq
      replace hle := hle.trans hkk6
      replace h511 := h511.mono (hk525.trans hk530)
      replace h514 := h514.mono (hk525.trans hk530)
      replace h517 := h517.mono (hk525.trans hk530)
      refine r_join hJ _ ⟨K529, a512, c513, C518, a515, c516, C519, a535, c536, C541, a538, c539, C542, rfl, hle, h511, h514, h517, h534, h537, h540, (hS.sel [3, 4, 5, 0, 1, 2, 6] rfl)⟩ ⟨rfl, rfl, rfl, trivial⟩
    replace hf := bif_t hc hf
    iterate 2 refine s_v rfl rfl rfl ?_
    have hq := Option.some.inj hf
    subst hq
    replace hle := hle.trans hkk6
    replace h511 := h511.mono (hk525.trans hk530)
    replace h514 := h514.mono (hk525.trans hk530)
    replace h517 := h517.mono (hk525.trans hk530)
    refine r_join hJ _ ⟨K529, a512, c513, C518, a515, c516, C519, a535, c536, C541, a538, c539, C542, rfl, hle, h511, h514, h517, h534, h537, h540, (hS.sel [3, 4, 5, 0, 1, 2, 6] rfl)⟩ ⟨rfl, rfl, rfl, trivial⟩
  rintro _ w ⟨K547, a550, c551, C552, a555, c556, C557, a561, c562, C563, a566, c567, C568, rfl, hle, h548, h549, h554, h559, h560, h565, hS⟩
  refine s_v rfl rfl rfl ?_
  obtain ⟨s590, hst591, hf⟩ := Option.bind_eq_some_iff.1 hf
  refine r_cut [_, _, _, _] (fun τ w => ∃ (K589 : KM), τ = [(156, (.bool s590))] ∧ KM.le K K589 ∧ Sat w K589 (flat [L])) rfl (fun J hJ => ?_) ?_
  · replace hf := hst591
    cases hc : s570
    · replace hf := bif_f hc hf
      refine s_no rfl rfl ?_
      refine s_no rfl rfl ?_
      refine s_no rfl rfl ?_
      refine s_v rfl rfl rfl ?_
      have hq := Option.some.inj hf
      subst hq
      refine r_join hJ _ ⟨K547, rfl, hle, (hS.sel [6] rfl)⟩ ⟨rfl, trivial⟩
    replace hf := bif_t hc hf
    refine s_ld (v := (.agg #[(.string x504.1.Name), (.slice a509 x504.1.Params.length c510), (.int .i64 x504.1.Ret.Kind), (.string x504.1.Ret.Class), (.bool x504.1.Static), (.bool x504.1.Abstract), (.int .i64 x504.1.Locals), (.slice a550 x504.1.Code.length c551), (.slice a555 x504.1.Handlers.length c556)])) 0 hS rfl rfl rfl rfl rfl ?_
    refine s_ld (v := (.agg #[(.string x527.1.Name), (.slice a532 x527.1.Params.length c533), (.int .i64 x527.1.Ret.Kind), (.string x527.1.Ret.Class), (.bool x527.1.Static), (.bool x527.1.Abstract), (.int .i64 x527.1.Locals), (.slice a561 x527.1.Code.length c562), (.slice a566 x527.1.Handlers.length c567)])) 3 hS rfl rfl rfl rfl rfl ?_
    obtain ⟨K592, hk593, h594, hS⟩ := h549.freeze (hS.sel [1, 0, 2, 3, 4, 5, 6] rfl)
    replace hS : Sat w _ (flat [_, _, _, _, _, _]) := hS
    replace h554 := h554.mono hk593
    obtain ⟨K595, hk596, h597, hS⟩ := h554.freeze (hS.sel [1, 0, 2, 3, 4, 5] rfl)
    replace hS : Sat w _ (flat [_, _, _, _, _]) := hS
    replace h560 := h560.mono (hk593.trans hk596)
    obtain ⟨K598, hk599, h600, hS⟩ := h560.freeze (hS.sel [2, 0, 1, 3, 4] rfl)
    replace hS : Sat w _ (flat [_, _, _, _]) := hS
    replace h565 := h565.mono ((hk593.trans hk596).trans hk599)
    obtain ⟨K601, hk602, h603, hS⟩ := h565.freeze (hS.sel [2, 0, 1, 3] rfl)
    replace hS : Sat w _ (flat [_, _, _]) := hS
    obtain ⟨x604, hx605, hf⟩ := Option.bind_eq_some_iff.1 hf
    have hkk7 := ((hk593.trans hk596).trans hk599).trans hk602
    replace h548 := h548.mono hkk7
    replace h559 := h559.mono hkk7
    replace h594 := h594.mono ((hk596.trans hk599).trans hk602)
    replace h597 := h597.mono (hk599.trans hk602)
    replace h600 := h600.mono hk602
    refine s_call isf35 hS.nilG (bonsairef1_SameMethod_spec hx605 h548 h594 h597 h559 h600 h603) rfl rfl rfl ?_
    rintro _ K606 C608 w hk607 rfl hS
    replace hS := hS.drop1
    refine s_v rfl rfl rfl ?_
    have hq := Option.some.inj hf
    subst hq
    have hkk8 := hkk7.trans hk607
    replace hle := hle.trans hkk8
    refine r_join hJ _ ⟨K606, rfl, hle, (hS.sel [2] rfl)⟩ ⟨rfl, trivial⟩
  rintro _ w ⟨K589, rfl, hle, hS⟩
  refine s_v rfl rfl rfl ?_
  refine s_nil (qn (s_rets ?_))
  have hq := Option.some.inj hf
  subst hq
  refine s_ret1 rfl (rv_t rfl) ?_
  exact ⟨K589, _, hle, rfl, Sat.nilG (hS.sel [0] rfl)⟩
end Go.Proofs.Ytgaldjnnfkdohaa
