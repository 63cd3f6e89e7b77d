/- Functions of the program, and their walks: what each reckons, and that its code reckons it. -/
import Derived.Test.YtgaldjnnfkdohaaFg
set_option linter.unusedVariables false
set_option linter.unusedSimpArgs false
set_option maxHeartbeats 0
set_option maxRecDepth 100000
namespace Go.Proofs.Ytgaldjnnfkdohaa
open Go Go.Fw
noncomputable def bod8 : Code := Try.f8.body.getD .skip
theorem isf8 : IsFn Try.prog 8 Try.f8 bod8 := ⟨Try.func8, rfl, by decide⟩
-- 8 bonsai/bonsailaw19.RewriteLands
def bonsailaw19_RewriteLands.l0 (fu : Nat) : Nat → Int → Int → (List (List api_Instr)) → Int → Option (Int × Int × (List (List api_Instr)))
  | 0, _, _, _, _ => none
  | k + 1, v292, v293, v294, v295 => bif decide (v295 < v293) then ((idx v294 v292).bind fun x296 => guardB (roomy x296.length 2 88) (bonsailaw19_RewriteLands.l0 fu k v292 v293 (v294.set (v292 : Int).toNat (x296 ++ ([(api_Instr.mk 3 0 0 ByteArray.empty ByteArray.empty ByteArray.empty ByteArray.empty), (api_Instr.mk 6 0 0 ByteArray.empty ByteArray.empty ByteArray.empty ByteArray.empty)] : List api_Instr))) (w64 (v295 + 1)))) else (some (v292, v293, v294))
def bonsailaw19_RewriteLands.l1 (fu : Nat) (x40 : api_Method) (s196 : (Int × Int × (List (List api_Instr)))) (x373 : (api_Method × Bool)) : Nat → Int → Option (LR Unit Bool)
  | 0, _ => none
  | k + 1, v1219 => bif decide (v1219 < (x40.Code.length : Int)) then ((bif decide (v1219 ≥ s196.1) then (some (w64 (v1219 + (w64 (2 * s196.2.1))))) else (some v1219)).bind fun s1235 => (idx x373.1.Code s1235).bind fun x1237 => (idx x40.Code v1219).bind fun x1258 => bif x1237.Op != x1258.Op then (LR.esc (some false)) else (((bonsairef1_Jumps.fn x1237.Op).bind fun x1335 => bif x1335 then ((idx x40.Code v1219).bind fun x1340 => (bonsailaw19_moved.fn x1340.K s196.1 s196.2.1).bind fun x1345 => some (x1237.K != x1345)) else (some false)).bind fun s1313 => bif s1313 then (LR.esc (some false)) else (bonsailaw19_RewriteLands.l1 fu x40 s196 x373 k (w64 (v1219 + 1))))) else (some (.brk ()))
def bonsailaw19_RewriteLands.l2 (fu : Nat) (x40 : api_Method) (s196 : (Int × Int × (List (List api_Instr)))) (x373 : (api_Method × Bool)) : Nat → Int → Option (LR Unit Bool)
  | 0, _ => none
  | k + 1, v2697 => bif decide (v2697 < (x40.Handlers.length : Int)) then (((idx x40.Handlers v2697).bind fun x2831 => (idx x373.1.Handlers v2697).bind fun x2836 => some (x2831.From, x2831.To, x2831.At, x2831.Catch, x2836.From, x2836.To, x2836.At, x2836.Catch)).bind fun s2784 => ((bonsailaw19_moved.fn s2784.1 s196.1 s196.2.1).bind fun x2915 => bif s2784.2.2.2.2.1 != x2915 then (some true) else ((bonsailaw19_moved.fn s2784.2.1 s196.1 s196.2.1).bind fun x2920 => bif s2784.2.2.2.2.2.1 != x2920 then (some true) else ((bonsailaw19_moved.fn s2784.2.2.1 s196.1 s196.2.1).bind fun x2925 => bif s2784.2.2.2.2.2.2.1 != x2925 then (some true) else (some (!(s2784.2.2.2.2.2.2.2.toList == s2784.2.2.2.1.toList)))))).bind fun s2898 => bif s2898 then (LR.esc (some false)) else (bonsailaw19_RewriteLands.l2 fu x40 s196 x373 k (w64 (v2697 + 1)))) else (some (.brk ()))
def bonsailaw19_RewriteLands.fn (fu : Nat) (p1 : Arr4_uint8) (p2 : (List Int)) (p6 : Int) (p7 : Int) : Option Bool := (bonsailaw19_known.fn fu).bind fun x11 => bif !x11 then (some false) else (bif decide ((p2.length : Int) > 40) then (some true) else ((bonsaiseat_Archive.fn fu p1 p2 []).bind fun x16 => (idx x16.Classes 0).bind fun x26 => (idx x26.Methods 0).bind fun x40 => guardB ((x40.Code.length : Int) != 0) (guardB (mayMake (x40.Code.length : Int) 24) ((bonsailaw19_RewriteLands.l0 fu fu (Int.tmod (w64 p6) (x40.Code.length : Int)) (w64 (Int.tmod p7 5)) (List.replicate (x40.Code.length : Int).toNat ([] : (List api_Instr))) 0).bind fun s196 => (idx s196.2.2 s196.1).bind fun x322 => (idx x40.Code s196.1).bind fun x355 => guardB (roomy x322.length 1 88) ((rewrite_Method.fn fu x40 (s196.2.2.set (s196.1 : Int).toNat (x322 ++ ([x355] : List api_Instr)))).bind fun x373 => (bif !x373.2 then (some true) else (some ((x373.1.Code.length : Int) != (w64 ((x40.Code.length : Int) + (w64 (2 * s196.2.1))))))).bind fun s408 => (bif s408 then (some true) else (some ((x373.1.Handlers.length : Int) != (x40.Handlers.length : Int)))).bind fun s425 => bif s425 then (some false) else (LR.then (bonsailaw19_RewriteLands.l1 fu x40 s196 x373 fu 0) fun s894 => LR.then (bonsailaw19_RewriteLands.l2 fu x40 s196 x373 fu 0) fun s2168 => some true))))))
theorem bonsailaw19_RewriteLands_spec {K : KM} {fu : Nat} {p1 : Arr4_uint8} {p2 : (List Int)} {p6 : Int} {p7 : Int} {r : Bool} {a3 : Option Addr} {c4 : Nat} (hf : bonsailaw19_RewriteLands.fn fu p1 p2 p6 p7 = some r) (h5 : SlK 5 K a3 c4 p2) : Sp Try.prog 8 [(.agg #[(.int .u8 p1.e0), (.int .u8 p1.e1), (.int .u8 p1.e2), (.int .u8 p1.e3)]), (.slice a3 p2.length c4), (.int .u8 p6), (.int .u8 p7)] K [] (fun K' C v => v = (.bool r)) := by
  unfold bonsailaw19_RewriteLands.fn at hf
  refine spec_enter isf8 rfl ?_
  intro w L hS
  replace hS : Sat w K (flat [L]) := hS
  have hle := KM.le.refl K
  unfold bod8 Try.f8
  dsimp only [Option.getD_some, argSlots]
  refine s_seq (s_reg ?_)
  refine s_bx hS rfl rfl rfl ?_
  intro b9 w hS
  replace hS : Sat w K (flat ([(b9, Cl [(.int .u8 p1.e0), (.int .u8 p1.e1), (.int .u8 p1.e2), (.int .u8 p1.e3)] 68)] :: _)) := hS
  refine s_v rfl rfl rfl ?_
  refine s_nil (qn (s_seq (s_seq (s_reg ?_))))
  obtain ⟨x11, hx12, hf⟩ := Option.bind_eq_some_iff.1 hf
  refine s_call isf29 hS.nilG (bonsailaw19_known_spec hx12) rfl rfl rfl ?_
  rintro _ K13 C15 w hk14 rfl hS
  replace hS := hS.drop1
  refine s_v rfl rfl rfl ?_
  refine s_nil (qn ?_)
  refine s_if rfl (fun hc => ?_) (fun hc => ?_)
  · replace hf := bif_t hc hf
    refine s_seq (s_reg ?_)
    refine s_v rfl rfl rfl ?_
    refine s_nil (qn ?_)
    replace hS : Sat w K13 (flat [_]) := (hS.sel [1] rfl)
    refine s_rets (qrt ?_)
    have hq := Option.some.inj hf
    subst hq
    refine s_ret1 rfl (rv_t rfl) ?_
    replace hle := hle.trans hk14
    exact ⟨K13, _, hle, rfl, Sat.nilG (hS.sel [0] rfl)⟩
  replace hf := bif_f hc hf
  refine s_skip (qn (s_seq (s_seq (s_reg ?_))))
  iterate 3 refine s_v rfl rfl rfl ?_
  refine s_nil (qn ?_)
  refine s_if rfl (fun hc => ?_) (fun hc => ?_)
  · replace hf := bif_t hc hf
    refine s_seq (s_reg ?_)
    refine s_v rfl rfl rfl ?_
    refine s_nil (qn ?_)
    replace hS : Sat w K13 (flat [_]) := (hS.sel [1] rfl)
    refine s_rets (qrt ?_)
    have hq := Option.some.inj hf
    subst hq
    refine s_ret1 rfl (rv_t rfl) ?_
    replace hle := hle.trans hk14
    exact ⟨K13, _, hle, rfl, Sat.nilG (hS.sel [0] rfl)⟩
  replace hf := bif_f hc hf
  refine s_skip (qn (s_seq (s_reg ?_)))
  refine s_ld (v := (.agg #[(.int .u8 p1.e0), (.int .u8 p1.e1), (.int .u8 p1.e2), (.int .u8 p1.e3)])) 0 hS rfl rfl rfl rfl rfl ?_
  refine s_v rfl rfl rfl ?_
  obtain ⟨x16, hx17, hf⟩ := Option.bind_eq_some_iff.1 hf
  replace h5 := h5.mono hk14
  refine s_call isf31 hS.nilG (bonsaiseat_Archive_spec hx17 h5 SlK.nil) rfl rfl rfl ?_
  rintro _ K18 C20 w hk19 ⟨a21, c22, rfl, h23⟩ hS
  replace hS := hS.drop1
  refine s_al hS rfl rfl rfl ?_
  intro b24 w hS
  replace hS : Sat w K18 (flat ([(b24, Cl [(.slice none 0 0)] 74)] :: _)) := hS
  refine s_st (cs' := [(.slice a21 x16.Classes.length c22)]) 0 hS rfl rfl rfl rfl rfl ?_
  intro w hS
  replace hS : Sat w _ (flat [_, _, _]) := hS
  refine s_nil (qn ?_)
  replace hS : Sat w K18 (flat [_, _]) := (hS.sel [0, 2] rfl)
  refine s_seq (s_reg ?_)
  refine s_v rfl rfl rfl ?_
  refine s_ld 0 hS rfl rfl rfl rfl rfl ?_
  obtain ⟨x26, hx27, hf⟩ := Option.bind_eq_some_iff.1 hf
  refine s_ixk h23 rfl hx27 rfl rfl rfl rfl rfl rfl rfl ?_
  rintro b37 o38 _ ⟨a28, c29, a31, c32, a34, c35, rfl, h30, h33, h36⟩ h39
  refine s_v rfl rfl rfl ?_
  refine s_ldk 5 hS h39 rfl rfl rfl rfl ?_
  obtain ⟨x40, hx41, hf⟩ := Option.bind_eq_some_iff.1 hf
  refine s_ixk h36 rfl hx41 rfl rfl rfl rfl rfl rfl rfl ?_
  rintro b51 o52 _ ⟨a42, c43, a45, c46, a48, c49, rfl, h44, h47, h50⟩ h53
  refine s_ldk (v := (.agg #[(.string x40.Name), (.slice a42 x40.Params.length c43), (.int .i64 x40.Ret.Kind), (.string x40.Ret.Class), (.bool x40.Static), (.bool x40.Abstract), (.int .i64 x40.Locals), (.slice a45 x40.Code.length c46), (.slice a48 x40.Handlers.length c49)])) 0 hS h53 rfl rfl rfl rfl ?_
  refine s_al hS rfl rfl rfl ?_
  intro b54 w hS
  replace hS : Sat w K18 (flat ([(b54, Cl [(.string ByteArray.empty), (.slice none 0 0), (.int .i64 0), (.string ByteArray.empty), (.bool false), (.bool false), (.int .i64 0), (.slice none 0 0), (.slice none 0 0)] 67)] :: _)) := hS
  refine s_st (cs' := [(.string x40.Name), (.slice a42 x40.Params.length c43), (.int .i64 x40.Ret.Kind), (.string x40.Ret.Class), (.bool x40.Static), (.bool x40.Abstract), (.int .i64 x40.Locals), (.slice a45 x40.Code.length c46), (.slice a48 x40.Handlers.length c49)]) 0 hS rfl rfl rfl rfl rfl ?_
  intro w hS
  replace hS : Sat w _ (flat [_, _, _]) := hS
  refine s_nil (qn ?_)
  replace hS : Sat w K18 (flat [_, _]) := (hS.sel [0, 2] rfl)
  refine s_seq (s_reg ?_)
  refine s_v rfl rfl rfl ?_
  refine s_ld 0 hS rfl rfl rfl rfl rfl ?_
  iterate 2 refine s_v rfl rfl rfl ?_
  refine s_nil (qn (s_seq (s_reg ?_)))
  iterate 3 refine s_v rfl rfl rfl ?_
  obtain ⟨hm56, hf⟩ := guardB_some hf
  refine s_rem hm56 rfl rfl rfl rfl ?_
  iterate 5 refine s_v rfl rfl rfl ?_
  refine s_nil (qn (s_seq (s_reg ?_)))
  refine s_v rfl rfl rfl ?_
  obtain ⟨hm57, hf⟩ := guardB_some hf
  refine s_mkx (e := 64) (D := (Dm.flat 77 : Dm (List api_Instr))) [] [.slice none 0 0] ⟨none, 0, rfl, OwnS.nil⟩ hS rfl rfl rfl rfl (mayMake_le hm57).1 (mayMake_le hm57).2 rfl rfl rfl rfl rfl rfl ?_
  intro a58 c59 w C60 h61 hS
  refine s_v rfl rfl rfl ?_
  refine s_nil (qn ?_)
  obtain ⟨s196, hst197, hf⟩ := Option.bind_eq_some_iff.1 hf
  refine s_cut (fun τ w => ∃ (K187 : KM) (C194 : Chunks), τ = [(10, (.pointer (some ⟨b54, 0, none⟩))), (11, (.int .i64 (x40.Code.length : Int))), (12, (.int .i64 s196.1)), (13, (.int .i64 s196.2.1)), (14, (.slice a58 s196.2.2.length c59))] ∧ KM.le K K187 ∧ SlK 63 K187 a42 c43 x40.Params ∧ SlK 77 K187 a45 c46 x40.Code ∧ SlK 92 K187 a48 c49 x40.Handlers ∧ OwnD 64 (Dm.flat 77 : Dm (List api_Instr)) K187 (.slice a58 s196.2.2.length c59) s196.2.2 C194 ∧ Sat w K187 (flat [[(b54, Cl [(.string x40.Name), (.slice a42 x40.Params.length c43), (.int .i64 x40.Ret.Kind), (.string x40.Ret.Class), (.bool x40.Static), (.bool x40.Abstract), (.int .i64 x40.Locals), (.slice a45 x40.Code.length c46), (.slice a48 x40.Handlers.length c49)] 67)], C194, L])) (fun J hJ => ?_) ?_
  · replace hf := hst197
    refine s_seq (s_reg ?_)
    refine s_v rfl rfl rfl ?_
    refine s_nil (qn (s_block ?_))
    replace hle := hle.trans (hk14.trans hk19)
    refine s_loopp (fun n τ w => ∃ (v292 : Int) (v293 : Int) (v294 : (List (List api_Instr))) (v295 : Int) (K283 : KM) (C290 : Chunks), bonsailaw19_RewriteLands.l0 fu n v292 v293 v294 v295 = some s196 ∧ τ = [(10, (.pointer (some ⟨b54, 0, none⟩))), (11, (.int .i64 (x40.Code.length : Int))), (12, (.int .i64 v292)), (13, (.int .i64 v293)), (14, (.slice a58 v294.length c59)), (15, (.int .i64 v295))] ∧ KM.le K K283 ∧ SlK 63 K283 a42 c43 x40.Params ∧ SlK 77 K283 a45 c46 x40.Code ∧ SlK 92 K283 a48 c49 x40.Handlers ∧ OwnD 64 (Dm.flat 77 : Dm (List api_Instr)) K283 (.slice a58 v294.length c59) v294 C290 ∧ Sat w K283 (flat [[(b54, Cl [(.string x40.Name), (.slice a42 x40.Params.length c43), (.int .i64 x40.Ret.Kind), (.string x40.Ret.Class), (.bool x40.Static), (.bool x40.Abstract), (.int .i64 x40.Locals), (.slice a45 x40.Code.length c46), (.slice a48 x40.Handlers.length c49)] 67)], C290, L])) _ ⟨Int.tmod (w64 p6) (x40.Code.length : Int), w64 (Int.tmod p7 5), (List.replicate (x40.Code.length : Int).toNat ([] : (List api_Instr))), 0, K18, C60, hf, rfl, hle, h44, h47, h50, h61, (hS.sel [1, 0, 2] rfl)⟩ ⟨rfl, rfl, rfl, rfl, rfl, rfl, trivial⟩ ?_ ?_
    · rintro _ _ ⟨_, _, _, _, _, _, hf, _⟩
      exact absurd hf (by simp [bonsailaw19_RewriteLands.l0])
    rintro n _ w Y hY ⟨v292, v293, v294, v295, K283, C290, hf, rfl, hle, h284, h285, h286, h287, hS⟩
    rw [bonsailaw19_RewriteLands.l0] at hf
    refine s_seq (s_seq (s_reg ?_))
    iterate 3 refine s_v rfl rfl rfl ?_
    refine s_nil (qn ?_)
    refine s_if rfl (fun hc => ?_) (fun hc => ?_)
    · replace hf := bif_t hc hf
      refine s_skip (qn (s_seq (s_block (s_reg ?_))))
      iterate 4 refine s_v rfl rfl rfl ?_
      obtain ⟨x296, hx297, hf⟩ := Option.bind_eq_some_iff.1 hf
      obtain ⟨b298, l299, _, l301, C302, C303, ⟨a306, c307, rfl, h308⟩, hfo304, hS, hun305⟩ := ix_foc (hS.sel [1, 0, 2] rfl) h287 hx297
      have hq311 := KM.le.refl K283
      replace hS : Sat w _ (flat [_, _, _, _, _]) := hS
      refine s_ixf hfo304 rfl rfl rfl rfl rfl rfl rfl ?_
      refine s_ldm 0 0 hS rfl rfl rfl rfl rfl ?_
      refine s_v (v := (.agg #[(.int .i64 3), (.int .i32 0), (.int .i64 0), (.string ByteArray.empty), (.string ByteArray.empty), (.string ByteArray.empty), (.string ByteArray.empty)])) rfl rfl rfl ?_
      refine s_v (v := (.agg #[(.int .i64 6), (.int .i32 0), (.int .i64 0), (.string ByteArray.empty), (.string ByteArray.empty), (.string ByteArray.empty), (.string ByteArray.empty)])) rfl rfl rfl ?_
      refine s_bwc (cs := [(.int .i64 3), (.int .i32 0), (.int .i64 0), (.string ByteArray.empty), (.string ByteArray.empty), (.string ByteArray.empty), (.string ByteArray.empty), (.int .i64 6), (.int .i32 0), (.int .i64 0), (.string ByteArray.empty), (.string ByteArray.empty), (.string ByteArray.empty), (.string ByteArray.empty)]) hS rfl rfl rfl rfl rfl rfl rfl rfl rfl rfl ?_
      intro b312 w hS
      obtain ⟨hm314, hf⟩ := guardB_some hf
      refine s_appv (e := 77) (ys := ([(api_Instr.mk 3 0 0 ByteArray.empty ByteArray.empty ByteArray.empty ByteArray.empty), (api_Instr.mk 6 0 0 ByteArray.empty ByteArray.empty ByteArray.empty ByteArray.empty)] : List api_Instr)) 2 0 hS rfl h308 rfl ⟨[(.int .i64 3), (.int .i32 0), (.int .i64 0), (.string ByteArray.empty), (.string ByteArray.empty), (.string ByteArray.empty), (.string ByteArray.empty)], _, rfl, rfl, ⟨[(.int .i64 6), (.int .i32 0), (.int .i64 0), (.string ByteArray.empty), (.string ByteArray.empty), (.string ByteArray.empty), (.string ByteArray.empty)], _, rfl, rfl, rfl⟩⟩ rfl rfl rfl rfl rfl rfl rfl rfl (roomy_le hm314) rfl rfl rfl ?_
      intro a315 c316 w C317 h318 hS
      replace hS : Sat w _ (flat [_, _, _, _, _, _]) := hS
      refine s_ixf hfo304 rfl rfl rfl rfl rfl rfl rfl ?_
      refine s_stm (cs' := [(.slice a315 ((x296 ++ ([(api_Instr.mk 3 0 0 ByteArray.empty ByteArray.empty ByteArray.empty ByteArray.empty), (api_Instr.mk 6 0 0 ByteArray.empty ByteArray.empty ByteArray.empty ByteArray.empty)] : List api_Instr)).length) c316)]) 1 0 hS rfl rfl rfl rfl rfl ?_
      intro w hS
      replace hS : Sat w _ (flat [_, _, _, _, _, _]) := hS
      refine s_nil (qbn (qn ?_))
      replace hS : Sat w K283 (flat [_, _, _, _, _]) := (hS.sel [1, 2, 3, 4, 5] rfl)
      refine s_reg ?_
      iterate 3 refine s_v rfl rfl rfl ?_
      refine s_nil (qn ?_)
      have h319 := hun305 K283 _ _ _ hq311 (show (Dm.flat 77 : Dm (List api_Instr)).rep K283 (x296 ++ ([(api_Instr.mk 3 0 0 ByteArray.empty ByteArray.empty ByteArray.empty ByteArray.empty), (api_Instr.mk 6 0 0 ByteArray.empty ByteArray.empty ByteArray.empty ByteArray.empty)] : List api_Instr)) [(.slice a315 ((x296 ++ ([(api_Instr.mk 3 0 0 ByteArray.empty ByteArray.empty ByteArray.empty ByteArray.empty), (api_Instr.mk 6 0 0 ByteArray.empty ByteArray.empty ByteArray.empty ByteArray.empty)] : List api_Instr)).length) c316)] _ from ⟨a315, c316, rfl, h318⟩)
      replace hS := Sat.join3 (hS.sel [0, 1, 2, 3, 4] rfl)
      generalize hCg_ : ([(b298, Cl (l299 ++ (([(.slice a315 ((x296 ++ ([(api_Instr.mk 3 0 0 ByteArray.empty ByteArray.empty ByteArray.empty ByteArray.empty), (api_Instr.mk 6 0 0 ByteArray.empty ByteArray.empty ByteArray.empty ByteArray.empty)] : List api_Instr)).length) c316)] : List Value) ++ l301)) 64)] ++ (C317 ++ C303) : Chunks) = C320 at hS h319
      clear hCg_
      have hl321 := OwnD.len h319
      replace hS : Sat w _ (flat [_, _, _]) := hS
      refine s_join hY _ ⟨v292, v293, (v294.set (v292 : Int).toNat (x296 ++ ([(api_Instr.mk 3 0 0 ByteArray.empty ByteArray.empty ByteArray.empty ByteArray.empty), (api_Instr.mk 6 0 0 ByteArray.empty ByteArray.empty ByteArray.empty ByteArray.empty)] : List api_Instr))), w64 (v295 + 1), K283, C320, hf, rfl, hle, h284, h285, h286, (OwnD.norm h319), (by (try rw [hl321]); exact (hS.sel [1, 0, 2] rfl))⟩ ⟨rfl, rfl, rfl, rfl, (by rw [hl321]; rfl), rfl, trivial⟩
    replace hf := bif_f hc hf
    refine s_exit (qxt (qxt (qxb (qn ?_))))
    have hq := Option.some.inj hf
    subst hq
    refine s_join hJ _ ⟨K283, C290, rfl, hle, h284, h285, h286, h287, hS⟩ ⟨rfl, rfl, rfl, rfl, rfl, trivial⟩
  rintro _ w ⟨K187, C194, rfl, hle, h188, h189, h190, h191, hS⟩
  refine s_seq ?_
  obtain ⟨x322, hx323, hf⟩ := Option.bind_eq_some_iff.1 hf
  obtain ⟨b324, l325, _, l327, C328, C329, ⟨a332, c333, rfl, h334⟩, hfo330, hS, hun331⟩ := ix_foc (hS.sel [1, 0, 2] rfl) h191 hx323
  have hq337 := KM.le.refl K187
  replace hS : Sat w _ (flat [_, _, _, _, _]) := hS
  refine d_start [3] [(14, [0])] hS ?_
  intro w hS
  refine d_v 0 (fun _ _ _ _ _ h => h) [3] hS rfl rfl rfl (by kernel_rfl) rfl rfl ?_
  refine d_v 1 (fun _ _ _ _ _ h => h) [3] hS rfl rfl rfl (by kernel_rfl) rfl rfl ?_
  refine d_v 2 (fun _ _ _ _ _ h => h) [3] hS rfl rfl rfl (by kernel_rfl) rfl rfl ?_
  refine d_v 3 (fun _ _ _ _ _ h => h) [3] hS rfl rfl rfl (by kernel_rfl) rfl rfl ?_
  refine d_ixf 4 (fun _ _ _ _ _ h => h) [3] hS hfo330 rfl rfl rfl rfl rfl rfl rfl (by kernel_rfl) rfl rfl ?_
  refine d_ldmh 5 0 0 (fun _ _ _ _ _ h => h) [3] hS rfl rfl rfl (by kernel_rfl) rfl rfl (by kernel_rfl) rfl rfl ?_
  refine d_v 6 (fun _ _ _ _ _ h => h) [3] hS rfl rfl rfl (by kernel_rfl) rfl rfl ?_
  refine d_ld 7 0 (fun _ _ _ _ _ h => h) [3] hS rfl rfl rfl rfl rfl (by kernel_rfl) rfl rfl ?_
  refine d_v 8 (fun _ _ _ _ _ h => h) [3] hS rfl rfl rfl (by kernel_rfl) rfl rfl ?_
  obtain ⟨x355, hx356, hf⟩ := Option.bind_eq_some_iff.1 hf
  refine d_ixk 9 (fun _ _ _ _ _ h => h) [3] hS h189 rfl hx356 rfl rfl rfl rfl rfl rfl rfl (by kernel_rfl) rfl rfl ?_
  rintro b357 o358 _ rfl h359
  refine d_ldk (v := (.agg #[(.int .i64 x355.Op), (.int .i32 x355.N), (.int .i64 x355.K), (.string x355.S), (.string x355.Class), (.string x355.Name), (.string x355.Desc)])) 10 0 (fun _ _ _ _ _ h => h) [3] hS h359 rfl rfl rfl rfl (by kernel_rfl) rfl rfl ?_
  refine d_op 11 rfl (by kernel_rfl) (by kernel_rfl) (fun X hX => ?_)
  have hlq := KM.le.refl K187
  refine s_bwc (cs := [(.int .i64 x355.Op), (.int .i32 x355.N), (.int .i64 x355.K), (.string x355.S), (.string x355.Class), (.string x355.Name), (.string x355.Desc)]) hS rfl rfl rfl rfl rfl rfl rfl rfl rfl rfl ?_
  intro b360 w hS
  refine d_go [4] [4] [(14, [1])] [some 0] hX hS hlq rfl rfl ⟨rfl, trivial⟩ ?_
  refine d_op 12 rfl (by kernel_rfl) (by kernel_rfl) (fun X hX => ?_)
  have hlq := KM.le.refl K187
  obtain ⟨hm362, hf⟩ := guardB_some hf
  refine s_appv (e := 77) (ys := ([x355] : List api_Instr)) 2 0 hS rfl h334 rfl ⟨[(.int .i64 x355.Op), (.int .i32 x355.N), (.int .i64 x355.K), (.string x355.S), (.string x355.Class), (.string x355.Name), (.string x355.Desc)], _, rfl, rfl, rfl⟩ rfl rfl rfl rfl rfl rfl rfl rfl (roomy_le hm362) rfl rfl rfl ?_
  intro a363 c364 w C365 h366 hS
  replace hS : Sat w _ (flat [_, _, _, _, _, _]) := hS
  refine d_go [4] [4] [(14, [1])] [some 0] hX hS hlq rfl rfl ⟨rfl, trivial⟩ ?_
  refine d_ixf 13 (fun _ _ _ _ _ h => h) [4] hS hfo330 rfl rfl rfl rfl rfl rfl rfl (by kernel_rfl) rfl rfl ?_
  refine d_op 14 rfl (by kernel_rfl) (by kernel_rfl) (fun X hX => ?_)
  have hlq := KM.le.refl K187
  refine s_stm (cs' := [(.slice a363 ((x322 ++ ([x355] : List api_Instr)).length) c364)]) 1 0 hS rfl rfl rfl rfl rfl ?_
  intro w hS
  replace hS : Sat w _ (flat [_, _, _, _, _, _]) := hS
  refine d_go [4] [1, 4] [] [none] hX hS hlq rfl rfl ⟨rfl, trivial⟩ ?_
  refine d_end (by kernel_rfl) ?_
  refine qn ?_
  replace hS : Sat w K187 (flat [_, _, _, _, _]) := (hS.sel [1, 2, 3, 4, 5] rfl)
  refine s_seq (s_reg ?_)
  refine s_ld (v := (.agg #[(.string x40.Name), (.slice a42 x40.Params.length c43), (.int .i64 x40.Ret.Kind), (.string x40.Ret.Class), (.bool x40.Static), (.bool x40.Abstract), (.int .i64 x40.Locals), (.slice a45 x40.Code.length c46), (.slice a48 x40.Handlers.length c49)])) 3 hS rfl rfl rfl rfl rfl ?_
  refine s_v rfl rfl rfl ?_
  have h367 := hun331 K187 _ _ _ hq337 (show (Dm.flat 77 : Dm (List api_Instr)).rep K187 (x322 ++ ([x355] : List api_Instr)) [(.slice a363 ((x322 ++ ([x355] : List api_Instr)).length) c364)] _ from ⟨a363, c364, rfl, h366⟩)
  replace hS := Sat.join3 (hS.sel [0, 1, 2, 3, 4] rfl)
  generalize hCg_ : ([(b324, Cl (l325 ++ (([(.slice a363 ((x322 ++ ([x355] : List api_Instr)).length) c364)] : List Value) ++ l327)) 64)] ++ (C365 ++ C329) : Chunks) = C368 at hS h367
  clear hCg_
  have hl369 := OwnD.len h367
  replace hS : Sat w _ (flat [_, _, _]) := hS
  obtain ⟨K370, hk371, h372, hS⟩ := h367.freeze (hS.sel [0, 1, 2] rfl)
  replace hS : Sat w _ (flat [_, _]) := hS
  obtain ⟨x373, hx374, hf⟩ := Option.bind_eq_some_iff.1 hf
  replace h188 := h188.mono hk371
  replace h189 := h189.mono hk371
  replace h190 := h190.mono hk371
  refine s_call isf33 hS.nilG (rewrite_Method_spec hx374 h188 h189 h190 h372) (by (try rw [hl369]); rfl) rfl rfl ?_
  rintro _ K375 _ w hk376 ⟨a378, c379, a381, c382, a384, c385, C387, C388, rfl, h380, h383, h386, rfl⟩ hS
  replace hS := hS.open2
  iterate 3 refine s_v rfl rfl rfl ?_
  refine s_al hS rfl rfl rfl ?_
  intro b391 w hS
  replace hS : Sat w K375 (flat ([(b391, Cl [(.string ByteArray.empty), (.slice none 0 0), (.int .i64 0), (.string ByteArray.empty), (.bool false), (.bool false), (.int .i64 0), (.slice none 0 0), (.slice none 0 0)] 67)] :: _)) := hS
  refine s_st (cs' := [(.string x373.1.Name), (.slice a378 x373.1.Params.length c379), (.int .i64 x373.1.Ret.Kind), (.string x373.1.Ret.Class), (.bool x373.1.Static), (.bool x373.1.Abstract), (.int .i64 x373.1.Locals), (.slice a381 x373.1.Code.length c382), (.slice a384 x373.1.Handlers.length c385)]) 0 hS rfl rfl rfl rfl rfl ?_
  intro w hS
  replace hS : Sat w _ (flat [_, _, _, _, _]) := hS
  refine s_v rfl rfl rfl ?_
  refine s_nil (qn (s_seq (s_seq (s_reg ?_))))
  iterate 3 refine s_v rfl rfl rfl ?_
  obtain ⟨s408, hst409, hf⟩ := Option.bind_eq_some_iff.1 hf
  refine r_cut [_, _, _, _, _, _, _, _, _] (fun τ w => ∃ (K393 : KM) (C401 : Chunks) (C406 : Chunks), τ = [(10, (.pointer (some ⟨b54, 0, none⟩))), (11, (.int .i64 (x40.Code.length : Int))), (12, (.int .i64 s196.1)), (13, (.int .i64 s196.2.1)), (16, (.pointer (some ⟨b391, 0, none⟩))), (98, (.bool s408))] ∧ KM.le K K393 ∧ SlK 63 K393 a42 c43 x40.Params ∧ SlK 77 K393 a45 c46 x40.Code ∧ SlK 92 K393 a48 c49 x40.Handlers ∧ SlK 63 K393 a378 c379 x373.1.Params ∧ OwnS 77 K393 (.slice a381 x373.1.Code.length c382) x373.1.Code C401 ∧ OwnS 92 K393 (.slice a384 x373.1.Handlers.length c385) x373.1.Handlers C406 ∧ Sat w K393 (flat [[(b54, Cl [(.string x40.Name), (.slice a42 x40.Params.length c43), (.int .i64 x40.Ret.Kind), (.string x40.Ret.Class), (.bool x40.Static), (.bool x40.Abstract), (.int .i64 x40.Locals), (.slice a45 x40.Code.length c46), (.slice a48 x40.Handlers.length c49)] 67)], [(b391, Cl [(.string x373.1.Name), (.slice a378 x373.1.Params.length c379), (.int .i64 x373.1.Ret.Kind), (.string x373.1.Ret.Class), (.bool x373.1.Static), (.bool x373.1.Abstract), (.int .i64 x373.1.Locals), (.slice a381 x373.1.Code.length c382), (.slice a384 x373.1.Handlers.length c385)] 67)], C401, C406, L])) rfl (fun J hJ => ?_) ?_
  · replace hf := hst409
    cases hc : (!x373.2)
    · replace hf := bif_f hc hf
      refine s_v rfl rfl rfl ?_
      refine s_ld 0 hS rfl rfl rfl rfl rfl ?_
      iterate 7 refine s_v rfl rfl rfl ?_
      have hq := Option.some.inj hf
      subst hq
      replace hle := hle.trans (hk371.trans hk376)
      replace h188 := h188.mono hk376
      replace h189 := h189.mono hk376
      replace h190 := h190.mono hk376
      refine r_join hJ _ ⟨K375, C387, C388, rfl, hle, h188, h189, h190, h380, h383, h386, (hS.sel [3, 0, 1, 2, 4] rfl)⟩ ⟨rfl, rfl, rfl, rfl, rfl, rfl, trivial⟩
    replace hf := bif_t hc hf
    refine s_no rfl rfl ?_
    refine s_no rfl rfl ?_
    refine s_no rfl rfl ?_
    refine s_no rfl rfl ?_
    refine s_no rfl rfl ?_
    refine s_no rfl rfl ?_
    refine s_no rfl rfl ?_
    refine s_no rfl rfl ?_
    refine s_v rfl rfl rfl ?_
    have hq := Option.some.inj hf
    subst hq
    replace hle := hle.trans (hk371.trans hk376)
    replace h188 := h188.mono hk376
    replace h189 := h189.mono hk376
    replace h190 := h190.mono hk376
    refine r_join hJ _ ⟨K375, C387, C388, rfl, hle, h188, h189, h190, h380, h383, h386, (hS.sel [3, 0, 1, 2, 4] rfl)⟩ ⟨rfl, rfl, rfl, rfl, rfl, rfl, trivial⟩
  rintro _ w ⟨K393, C401, C406, rfl, hle, h394, h395, h396, h397, h398, h403, hS⟩
  refine s_v rfl rfl rfl ?_
  obtain ⟨s425, hst426, hf⟩ := Option.bind_eq_some_iff.1 hf
  refine r_cut [_, _, _, _, _, _, _, _] (fun τ w => ∃ (K410 : KM) (C418 : Chunks) (C423 : Chunks), τ = [(10, (.pointer (some ⟨b54, 0, none⟩))), (11, (.int .i64 (x40.Code.length : Int))), (12, (.int .i64 s196.1)), (13, (.int .i64 s196.2.1)), (16, (.pointer (some ⟨b391, 0, none⟩))), (107, (.bool s425))] ∧ KM.le K K410 ∧ SlK 63 K410 a42 c43 x40.Params ∧ SlK 77 K410 a45 c46 x40.Code ∧ SlK 92 K410 a48 c49 x40.Handlers ∧ SlK 63 K410 a378 c379 x373.1.Params ∧ OwnS 77 K410 (.slice a381 x373.1.Code.length c382) x373.1.Code C418 ∧ OwnS 92 K410 (.slice a384 x373.1.Handlers.length c385) x373.1.Handlers C423 ∧ Sat w K410 (flat [[(b54, Cl [(.string x40.Name), (.slice a42 x40.Params.length c43), (.int .i64 x40.Ret.Kind), (.string x40.Ret.Class), (.bool x40.Static), (.bool x40.Abstract), (.int .i64 x40.Locals), (.slice a45 x40.Code.length c46), (.slice a48 x40.Handlers.length c49)] 67)], [(b391, Cl [(.string x373.1.Name), (.slice a378 x373.1.Params.length c379), (.int .i64 x373.1.Ret.Kind), (.string x373.1.Ret.Class), (.bool x373.1.Static), (.bool x373.1.Abstract), (.int .i64 x373.1.Locals), (.slice a381 x373.1.Code.length c382), (.slice a384 x373.1.Handlers.length c385)] 67)], C418, C423, L])) rfl (fun J hJ => ?_) ?_
  · replace hf := hst426
    cases hc : s408
    · replace hf := bif_f hc hf
      refine s_v rfl rfl rfl ?_
      refine s_ld 1 hS rfl rfl rfl rfl rfl ?_
      iterate 2 refine s_v rfl rfl rfl ?_
      refine s_ld 0 hS rfl rfl rfl rfl rfl ?_
      iterate 3 refine s_v rfl rfl rfl ?_
      have hq := Option.some.inj hf
      subst hq
      refine r_join hJ _ ⟨K393, C401, C406, rfl, hle, h394, h395, h396, h397, h398, h403, hS⟩ ⟨rfl, rfl, rfl, rfl, rfl, rfl, trivial⟩
    replace hf := bif_t hc hf
    refine s_no rfl rfl ?_
    refine s_no rfl rfl ?_
    refine s_no rfl rfl ?_
    refine s_no rfl rfl ?_
    refine s_no rfl rfl ?_
    refine s_no rfl rfl ?_
    refine s_no rfl rfl ?_
    refine s_v rfl rfl rfl ?_
    have hq := Option.some.inj hf
    subst hq
    refine r_join hJ _ ⟨K393, C401, C406, rfl, hle, h394, h395, h396, h397, h398, h403, hS⟩ ⟨rfl, rfl, rfl, rfl, rfl, rfl, trivial⟩
  rintro _ w ⟨K410, C418, C423, rfl, hle, h411, h412, h413, h414, h415, h420, hS⟩
  refine s_nil (qn ?_)
  refine s_if rfl (fun hc => ?_) (fun hc => ?_)
  · replace hf := bif_t hc hf
    refine s_seq (s_reg ?_)
    refine s_v rfl rfl rfl ?_
    refine s_nil (qn ?_)
    replace hS : Sat w K410 (flat [_]) := (hS.sel [4] rfl)
    refine s_rets (qrt ?_)
    have hq := Option.some.inj hf
    subst hq
    refine s_ret1 rfl (rv_t rfl) ?_
    exact ⟨K410, _, hle, rfl, Sat.nilG (hS.sel [0] rfl)⟩
  replace hf := bif_f hc hf
  refine s_skip (qn ?_)
  obtain ⟨res895, hst896, hm897⟩ := LR.then_some hf
  refine s_cut (fun τ w => ∃ (s894 : Unit) (K879 : KM) (C887 : Chunks) (C892 : Chunks), res895 = .brk s894 ∧ τ = [(10, (.pointer (some ⟨b54, 0, none⟩))), (12, (.int .i64 s196.1)), (13, (.int .i64 s196.2.1)), (16, (.pointer (some ⟨b391, 0, none⟩)))] ∧ KM.le K K879 ∧ SlK 63 K879 a42 c43 x40.Params ∧ SlK 77 K879 a45 c46 x40.Code ∧ SlK 92 K879 a48 c49 x40.Handlers ∧ SlK 63 K879 a378 c379 x373.1.Params ∧ OwnS 77 K879 (.slice a381 x373.1.Code.length c382) x373.1.Code C887 ∧ OwnS 92 K879 (.slice a384 x373.1.Handlers.length c385) x373.1.Handlers C892 ∧ Sat w K879 (flat [[(b54, Cl [(.string x40.Name), (.slice a42 x40.Params.length c43), (.int .i64 x40.Ret.Kind), (.string x40.Ret.Class), (.bool x40.Static), (.bool x40.Abstract), (.int .i64 x40.Locals), (.slice a45 x40.Code.length c46), (.slice a48 x40.Handlers.length c49)] 67)], [(b391, Cl [(.string x373.1.Name), (.slice a378 x373.1.Params.length c379), (.int .i64 x373.1.Ret.Kind), (.string x373.1.Ret.Class), (.bool x373.1.Static), (.bool x373.1.Abstract), (.int .i64 x373.1.Locals), (.slice a381 x373.1.Code.length c382), (.slice a384 x373.1.Handlers.length c385)] 67)], C887, C892, L])) (fun J hJ => ?_) ?_
  · replace hf := hst896
    refine s_seq (s_reg ?_)
    refine s_v rfl rfl rfl ?_
    refine s_nil (qn (s_block ?_))
    refine s_loopp (fun n τ w => ∃ (v1219 : Int) (K1204 : KM) (C1212 : Chunks) (C1217 : Chunks), bonsailaw19_RewriteLands.l1 fu x40 s196 x373 n v1219 = some res895 ∧ τ = [(10, (.pointer (some ⟨b54, 0, none⟩))), (11, (.int .i64 (x40.Code.length : Int))), (12, (.int .i64 s196.1)), (13, (.int .i64 s196.2.1)), (16, (.pointer (some ⟨b391, 0, none⟩))), (18, (.int .i64 v1219))] ∧ KM.le K K1204 ∧ SlK 63 K1204 a42 c43 x40.Params ∧ SlK 77 K1204 a45 c46 x40.Code ∧ SlK 92 K1204 a48 c49 x40.Handlers ∧ SlK 63 K1204 a378 c379 x373.1.Params ∧ OwnS 77 K1204 (.slice a381 x373.1.Code.length c382) x373.1.Code C1212 ∧ OwnS 92 K1204 (.slice a384 x373.1.Handlers.length c385) x373.1.Handlers C1217 ∧ Sat w K1204 (flat [[(b54, Cl [(.string x40.Name), (.slice a42 x40.Params.length c43), (.int .i64 x40.Ret.Kind), (.string x40.Ret.Class), (.bool x40.Static), (.bool x40.Abstract), (.int .i64 x40.Locals), (.slice a45 x40.Code.length c46), (.slice a48 x40.Handlers.length c49)] 67)], [(b391, Cl [(.string x373.1.Name), (.slice a378 x373.1.Params.length c379), (.int .i64 x373.1.Ret.Kind), (.string x373.1.Ret.Class), (.bool x373.1.Static), (.bool x373.1.Abstract), (.int .i64 x373.1.Locals), (.slice a381 x373.1.Code.length c382), (.slice a384 x373.1.Handlers.length c385)] 67)], C1212, C1217, L])) _ ⟨0, K410, C418, C423, hf, rfl, hle, h411, h412, h413, h414, h415, h420, hS⟩ ⟨rfl, rfl, rfl, rfl, rfl, rfl, trivial⟩ ?_ ?_
    · rintro _ _ ⟨_, _, _, _, hf, _⟩
      exact absurd hf (by simp [bonsailaw19_RewriteLands.l1])
    rintro n _ w Y hY ⟨v1219, K1204, C1212, C1217, hf, rfl, hle, h1205, h1206, h1207, h1208, h1209, h1214, hS⟩
    rw [bonsailaw19_RewriteLands.l1] at hf
    refine s_seq (s_seq (s_reg ?_))
    iterate 3 refine s_v rfl rfl rfl ?_
    refine s_nil (qn ?_)
    refine s_if rfl (fun hc => ?_) (fun hc => ?_)
    · replace hf := bif_t hc hf
      refine s_skip (qn (s_seq (s_block (s_seq (s_reg ?_)))))
      iterate 2 refine s_v rfl rfl rfl ?_
      refine s_nil (qn ?_)
      obtain ⟨s1235, hst1236, hf⟩ := Option.bind_eq_some_iff.1 hf
      refine s_cut (fun τ w => ∃ (K1220 : KM) (C1228 : Chunks) (C1233 : Chunks), τ = [(10, (.pointer (some ⟨b54, 0, none⟩))), (11, (.int .i64 (x40.Code.length : Int))), (12, (.int .i64 s196.1)), (13, (.int .i64 s196.2.1)), (16, (.pointer (some ⟨b391, 0, none⟩))), (18, (.int .i64 v1219)), (19, (.int .i64 s1235))] ∧ KM.le K K1220 ∧ SlK 63 K1220 a42 c43 x40.Params ∧ SlK 77 K1220 a45 c46 x40.Code ∧ SlK 92 K1220 a48 c49 x40.Handlers ∧ SlK 63 K1220 a378 c379 x373.1.Params ∧ OwnS 77 K1220 (.slice a381 x373.1.Code.length c382) x373.1.Code C1228 ∧ OwnS 92 K1220 (.slice a384 x373.1.Handlers.length c385) x373.1.Handlers C1233 ∧ Sat w K1220 (flat [[(b54, Cl [(.string x40.Name), (.slice a42 x40.Params.length c43), (.int .i64 x40.Ret.Kind), (.string x40.Ret.Class), (.bool x40.Static), (.bool x40.Abstract), (.int .i64 x40.Locals), (.slice a45 x40.Code.length c46), (.slice a48 x40.Handlers.length c49)] 67)], [(b391, Cl [(.string x373.1.Name), (.slice a378 x373.1.Params.length c379), (.int .i64 x373.1.Ret.Kind), (.string x373.1.Ret.Class), (.bool x373.1.Static), (.bool x373.1.Abstract), (.int .i64 x373.1.Locals), (.slice a381 x373.1.Code.length c382), (.slice a384 x373.1.Handlers.length c385)] 67)], C1228, C1233, L])) (fun J hJ => ?_) ?_
      · replace hf := hst1236
        refine s_seq (s_reg ?_)
        iterate 3 refine s_v rfl rfl rfl ?_
        refine s_nil (qn ?_)
        refine s_if rfl (fun hc => ?_) (fun hc => ?_)
        · replace hf := bif_t hc hf
          refine s_reg ?_
          iterate 5 refine s_v rfl rfl rfl ?_
          refine s_nil (qn ?_)
          have hq := Option.some.inj hf
          subst hq
          refine s_join hJ _ ⟨K1204, C1212, C1217, rfl, hle, h1205, h1206, h1207, h1208, h1209, h1214, hS⟩ ⟨rfl, rfl, rfl, rfl, rfl, rfl, rfl, trivial⟩
        replace hf := bif_f hc hf
        refine s_skip (qn ?_)
        have hq := Option.some.inj hf
        subst hq
        refine s_join hJ _ ⟨K1204, C1212, C1217, rfl, hle, h1205, h1206, h1207, h1208, h1209, h1214, hS⟩ ⟨rfl, rfl, rfl, rfl, rfl, rfl, rfl, trivial⟩
      rintro _ w ⟨K1220, C1228, C1233, rfl, hle, h1221, h1222, h1223, h1224, h1225, h1230, hS⟩
      refine s_seq (s_reg ?_)
      refine s_v rfl rfl rfl ?_
      refine s_ld 1 hS rfl rfl rfl rfl rfl ?_
      refine s_v rfl rfl rfl ?_
      obtain ⟨x1237, hx1238, hf⟩ := Option.bind_eq_some_iff.1 hf
      refine s_ixo 2 hS rfl h1225 hx1238 rfl rfl rfl rfl rfl rfl rfl ?_
      intro b1239 l1240 cs1243 l1241 hcs_ hC1244 hun1242
      obtain rfl := hcs_
      subst hC1244
      have hq1245 := KM.le.refl K1220
      refine s_ldm (v := (.agg #[(.int .i64 x1237.Op), (.int .i32 x1237.N), (.int .i64 x1237.K), (.string x1237.S), (.string x1237.Class), (.string x1237.Name), (.string x1237.Desc)])) 2 0 hS rfl rfl rfl rfl rfl ?_
      refine s_al hS rfl rfl rfl ?_
      intro b1246 w hS
      replace hS : Sat w K1220 (flat ([(b1246, Cl [(.int .i64 0), (.int .i32 0), (.int .i64 0), (.string ByteArray.empty), (.string ByteArray.empty), (.string ByteArray.empty), (.string ByteArray.empty)] 77)] :: _)) := hS
      refine s_st (cs' := [(.int .i64 x1237.Op), (.int .i32 x1237.N), (.int .i64 x1237.K), (.string x1237.S), (.string x1237.Class), (.string x1237.Name), (.string x1237.Desc)]) 0 hS rfl rfl rfl rfl rfl ?_
      intro w hS
      replace hS : Sat w _ (flat [_, _, _, _, _, _]) := hS
      refine s_nil (qn (s_seq (s_seq ?_)))
      refine d_start [0, 1] [] hS ?_
      intro w hS
      refine d_v 0 (fun _ _ _ _ _ h => h) [0, 1] hS rfl rfl rfl (by kernel_rfl) rfl rfl ?_
      refine d_ld 1 0 (fun _ _ _ _ _ h => h) [0, 1] hS rfl rfl rfl rfl rfl (by kernel_rfl) rfl rfl ?_
      refine d_v 2 (fun _ _ _ _ _ h => h) [0, 1] hS rfl rfl rfl (by kernel_rfl) rfl rfl ?_
      refine d_ld 3 1 (fun _ _ _ _ _ h => h) [0, 1] hS rfl rfl rfl rfl rfl (by kernel_rfl) rfl rfl ?_
      refine d_v 4 (fun _ _ _ _ _ h => h) [0, 1] hS rfl rfl rfl (by kernel_rfl) rfl rfl ?_
      obtain ⟨x1258, hx1259, hf⟩ := Option.bind_eq_some_iff.1 hf
      refine d_ixk 5 (fun _ _ _ _ _ h => h) [0, 1] hS h1222 rfl hx1259 rfl rfl rfl rfl rfl rfl rfl (by kernel_rfl) rfl rfl ?_
      rintro b1260 o1261 _ rfl h1262
      refine d_v 6 (fun _ _ _ _ _ h => h) [0, 1] hS rfl rfl rfl (by kernel_rfl) rfl rfl ?_
      refine d_ldk 7 0 (fun _ _ _ _ _ h => h) [0, 1] hS h1262 rfl rfl rfl rfl (by kernel_rfl) rfl rfl ?_
      refine d_v 8 (fun _ _ _ _ _ h => h) [0, 1] hS rfl rfl rfl (by kernel_rfl) rfl rfl ?_
      refine d_end (by kernel_rfl) ?_
      refine qn ?_
      refine s_if rfl (fun hc => ?_) (fun hc => ?_)
      · replace hf := bif_t hc hf
        refine s_seq (s_reg ?_)
        refine s_v rfl rfl rfl ?_
        refine s_nil (qn ?_)
        replace hS : Sat w K1220 (flat [_]) := (hS.sel [5] rfl)
        refine s_rets (qrt (qrb (qrt (qrt (qrb (qrt ?_))))))
        replace hf := LR.esc_some hf hm897
        have hq := Option.some.inj hf
        subst hq
        refine s_ret1 rfl (rv_t rfl) ?_
        exact ⟨K1220, _, hle, rfl, Sat.nilG (hS.sel [0] rfl)⟩
      replace hf := bif_f hc hf
      refine s_skip (qn ?_)
      obtain ⟨s1313, hst1314, hf⟩ := Option.bind_eq_some_iff.1 hf
      refine s_cut (fun τ w => ∃ (K1298 : KM) (C1306 : Chunks) (C1311 : Chunks), τ = [(10, (.pointer (some ⟨b54, 0, none⟩))), (11, (.int .i64 (x40.Code.length : Int))), (12, (.int .i64 s196.1)), (13, (.int .i64 s196.2.1)), (16, (.pointer (some ⟨b391, 0, none⟩))), (18, (.int .i64 v1219)), (151, (.bool s1313))] ∧ KM.le K K1298 ∧ SlK 63 K1298 a42 c43 x40.Params ∧ SlK 77 K1298 a45 c46 x40.Code ∧ SlK 92 K1298 a48 c49 x40.Handlers ∧ SlK 63 K1298 a378 c379 x373.1.Params ∧ OwnS 77 K1298 (.slice a381 x373.1.Code.length c382) x373.1.Code C1306 ∧ OwnS 92 K1298 (.slice a384 x373.1.Handlers.length c385) x373.1.Handlers C1311 ∧ Sat w K1298 (flat [[(b54, Cl [(.string x40.Name), (.slice a42 x40.Params.length c43), (.int .i64 x40.Ret.Kind), (.string x40.Ret.Class), (.bool x40.Static), (.bool x40.Abstract), (.int .i64 x40.Locals), (.slice a45 x40.Code.length c46), (.slice a48 x40.Handlers.length c49)] 67)], [(b391, Cl [(.string x373.1.Name), (.slice a378 x373.1.Params.length c379), (.int .i64 x373.1.Ret.Kind), (.string x373.1.Ret.Class), (.bool x373.1.Static), (.bool x373.1.Abstract), (.int .i64 x373.1.Locals), (.slice a381 x373.1.Code.length c382), (.slice a384 x373.1.Handlers.length c385)] 67)], C1306, C1311, L])) (fun J hJ => ?_) ?_
      · replace hf := hst1314
        refine d_start [0, 1] [] hS ?_
        intro w hS
        refine d_v 0 (fun _ _ _ _ _ h => h) [0, 1] hS rfl rfl rfl (by kernel_rfl) rfl rfl ?_
        refine d_ld 1 0 (fun _ _ _ _ _ h => h) [0, 1] hS rfl rfl rfl rfl rfl (by kernel_rfl) rfl rfl ?_
        refine d_op 2 rfl (by kernel_rfl) (by kernel_rfl) (fun X hX => ?_)
        have hlq := KM.le.refl K1220
        obtain ⟨x1335, hx1336, hf⟩ := Option.bind_eq_some_iff.1 hf
        refine s_call isf38 hS.nilG (bonsairef1_Jumps_spec hx1336) rfl rfl rfl ?_
        rintro _ K1337 C1339 w hk1338 rfl hS
        replace hS := hS.drop1
        replace hlq := hlq.trans hk1338
        refine d_go [0, 1] [0, 1] [] [] hX hS hlq rfl rfl trivial ?_
        refine d_v 3 (fun _ _ _ _ _ h => h) [0, 1] hS rfl rfl rfl (by kernel_rfl) rfl rfl ?_
        cases hc : x1335
        · replace hf := bif_f hc hf
          refine d_no 4 (fun _ _ _ _ _ h => h) [0, 1] hS rfl rfl (by kernel_rfl) rfl rfl ?_
          refine d_no 5 (fun _ _ _ _ _ h => h) [0, 1] hS rfl rfl (by kernel_rfl) rfl rfl ?_
          refine d_no 6 (fun _ _ _ _ _ h => h) [0, 1] hS rfl rfl (by kernel_rfl) rfl rfl ?_
          refine d_no 7 (fun _ _ _ _ _ h => h) [0, 1] hS rfl rfl (by kernel_rfl) rfl rfl ?_
          refine d_no 8 (fun _ _ _ _ _ h => h) [0, 1] hS rfl rfl (by kernel_rfl) rfl rfl ?_
          refine d_no 9 (fun _ _ _ _ _ h => h) [0, 1] hS rfl rfl (by kernel_rfl) rfl rfl ?_
          refine d_no 10 (fun _ _ _ _ _ h => h) [0, 1] hS rfl rfl (by kernel_rfl) rfl rfl ?_
          refine d_no 11 (fun _ _ _ _ _ h => h) [0, 1] hS rfl rfl (by kernel_rfl) rfl rfl ?_
          refine d_no 12 (fun _ _ _ _ _ h => h) [0, 1] hS rfl rfl (by kernel_rfl) rfl rfl ?_
          refine d_no 13 (fun _ _ _ _ _ h => h) [0, 1] hS rfl rfl (by kernel_rfl) rfl rfl ?_
          refine d_no 14 (fun _ _ _ _ _ h => h) [0, 1] hS rfl rfl (by kernel_rfl) rfl rfl ?_
          refine d_no 15 (fun _ _ _ _ _ h => h) [0, 1] hS rfl rfl (by kernel_rfl) rfl rfl ?_
          refine d_v 16 (fun _ _ _ _ _ h => h) [0, 1] hS rfl rfl rfl (by kernel_rfl) rfl rfl ?_
          refine d_end (by kernel_rfl) ?_
          refine qn ?_
          have hq := Option.some.inj hf
          subst hq
          replace h1221 := h1221.mono hk1338
          replace h1222 := h1222.mono hk1338
          replace h1223 := h1223.mono hk1338
          replace h1224 := h1224.mono hk1338
          replace h1225 := h1225.mono hk1338
          replace h1230 := h1230.mono hk1338
          replace hle := hle.trans hk1338
          refine s_join hJ _ ⟨K1337, [(b1239, Cl (l1240 ++ (([(.int .i64 x1237.Op), (.int .i32 x1237.N), (.int .i64 x1237.K), (.string x1237.S), (.string x1237.Class), (.string x1237.Name), (.string x1237.Desc)] : List Value) ++ l1241)) 77)], C1233, rfl, hle, h1221, h1222, h1223, h1224, h1225, h1230, (hS.sel [1, 2, 3, 4, 5] rfl)⟩ ⟨rfl, rfl, rfl, rfl, rfl, rfl, rfl, trivial⟩
        replace hf := bif_t hc hf
        refine d_v 4 (fun _ _ _ _ _ h => h) [0, 1] hS rfl rfl rfl (by kernel_rfl) rfl rfl ?_
        refine d_ld 5 0 (fun _ _ _ _ _ h => h) [0, 1] hS rfl rfl rfl rfl rfl (by kernel_rfl) rfl rfl ?_
        refine d_v 6 (fun _ _ _ _ _ h => h) [0, 1] hS rfl rfl rfl (by kernel_rfl) rfl rfl ?_
        refine d_ld 7 1 (fun _ _ _ _ _ h => h) [0, 1] hS rfl rfl rfl rfl rfl (by kernel_rfl) rfl rfl ?_
        refine d_v 8 (fun _ _ _ _ _ h => h) [0, 1] hS rfl rfl rfl (by kernel_rfl) rfl rfl ?_
        obtain ⟨x1340, hx1341, hf⟩ := Option.bind_eq_some_iff.1 hf
        replace h1222 := h1222.mono hk1338
        refine d_ixk 9 (fun _ _ _ _ _ h => h) [0, 1] hS h1222 rfl hx1341 rfl rfl rfl rfl rfl rfl rfl (by kernel_rfl) rfl rfl ?_
        rintro b1342 o1343 _ rfl h1344
        refine d_v 10 (fun _ _ _ _ _ h => h) [0, 1] hS rfl rfl rfl (by kernel_rfl) rfl rfl ?_
        refine d_ldk 11 2 (fun _ _ _ _ _ h => h) [0, 1] hS h1344 rfl rfl rfl rfl (by kernel_rfl) rfl rfl ?_
        refine d_v 12 (fun _ _ _ _ _ h => h) [0, 1] hS rfl rfl rfl (by kernel_rfl) rfl rfl ?_
        refine d_v 13 (fun _ _ _ _ _ h => h) [0, 1] hS rfl rfl rfl (by kernel_rfl) rfl rfl ?_
        refine d_op 14 rfl (by kernel_rfl) (by kernel_rfl) (fun X hX => ?_)
        have hlq := KM.le.refl K1337
        obtain ⟨x1345, hx1346, hf⟩ := Option.bind_eq_some_iff.1 hf
        refine s_call isf39 hS.nilG (bonsailaw19_moved_spec hx1346) rfl rfl rfl ?_
        rintro _ K1347 C1349 w hk1348 rfl hS
        replace hS := hS.drop1
        replace hlq := hlq.trans hk1348
        refine d_go [0, 1] [0, 1] [] [] hX hS hlq rfl rfl trivial ?_
        refine d_v 15 (fun _ _ _ _ _ h => h) [0, 1] hS rfl rfl rfl (by kernel_rfl) rfl rfl ?_
        refine d_v 16 (fun _ _ _ _ _ h => h) [0, 1] hS rfl rfl rfl (by kernel_rfl) rfl rfl ?_
        refine d_end (by kernel_rfl) ?_
        refine qn ?_
        have hq := Option.some.inj hf
        subst hq
        replace h1221 := h1221.mono (hk1338.trans hk1348)
        replace h1223 := h1223.mono (hk1338.trans hk1348)
        replace h1224 := h1224.mono (hk1338.trans hk1348)
        replace h1225 := h1225.mono (hk1338.trans hk1348)
        replace h1230 := h1230.mono (hk1338.trans hk1348)
        replace hle := hle.trans (hk1338.trans hk1348)
        replace h1222 := h1222.mono hk1348
        refine s_join hJ _ ⟨K1347, [(b1239, Cl (l1240 ++ (([(.int .i64 x1237.Op), (.int .i32 x1237.N), (.int .i64 x1237.K), (.string x1237.S), (.string x1237.Class), (.string x1237.Name), (.string x1237.Desc)] : List Value) ++ l1241)) 77)], C1233, rfl, hle, h1221, h1222, h1223, h1224, h1225, h1230, (hS.sel [1, 2, 3, 4, 5] rfl)⟩ ⟨rfl, rfl, rfl, rfl, rfl, rfl, rfl, trivial⟩
      rintro _ w ⟨K1298, C1306, C1311, rfl, hle, h1299, h1300, h1301, h1302, h1303, h1308, hS⟩
      refine s_if rfl (fun hc => ?_) (fun hc => ?_)
      · replace hf := bif_t hc hf
        refine s_seq (s_reg ?_)
        refine s_v rfl rfl rfl ?_
        refine s_nil (qn ?_)
        replace hS : Sat w K1298 (flat [_]) := (hS.sel [4] rfl)
        refine s_rets (qrb (qrt (qrt (qrb (qrt ?_)))))
        replace hf := LR.esc_some hf hm897
        have hq := Option.some.inj hf
        subst hq
        refine s_ret1 rfl (rv_t rfl) ?_
        exact ⟨K1298, _, hle, rfl, Sat.nilG (hS.sel [0] rfl)⟩
      replace hf := bif_f hc hf
      refine s_skip (qbn (qn (s_reg ?_)))
      iterate 3 refine s_v rfl rfl rfl ?_
      refine s_nil (qn ?_)
      refine s_join hY _ ⟨w64 (v1219 + 1), K1298, C1306, C1311, hf, rfl, hle, h1299, h1300, h1301, h1302, h1303, h1308, hS⟩ ⟨rfl, rfl, rfl, rfl, rfl, rfl, trivial⟩
    replace hf := bif_f hc hf
    refine s_exit (qxt (qxt (qxb (qn ?_))))
    have hq := Option.some.inj hf
    subst hq
    refine s_join hJ _ ⟨(), K1204, C1212, C1217, rfl, rfl, hle, h1205, h1206, h1207, h1208, h1209, h1214, hS⟩ ⟨rfl, rfl, rfl, rfl, trivial⟩
  rintro _ w ⟨s894, K879, C887, C892, rfl, rfl, hle, h880, h881, h882, h883, h884, h889, hS⟩
  replace hf := LR.elim_brk hm897
  obtain ⟨res2169, hst2170, hm2171⟩ := LR.then_some hf
  refine s_cut (fun τ w => ∃ (s2168 : Unit) (K2167 : KM), res2169 = .brk s2168 ∧ τ = [] ∧ KM.le K K2167 ∧ Sat w K2167 (flat [L])) (fun J hJ => ?_) ?_
  · replace hf := hst2170
    refine s_seq (s_reg ?_)
    refine s_v rfl rfl rfl ?_
    refine s_nil (qn (s_block ?_))
    refine s_loopp (fun n τ w => ∃ (v2697 : Int) (K2682 : KM) (C2690 : Chunks) (C2695 : Chunks), bonsailaw19_RewriteLands.l2 fu x40 s196 x373 n v2697 = some res2169 ∧ τ = [(10, (.pointer (some ⟨b54, 0, none⟩))), (12, (.int .i64 s196.1)), (13, (.int .i64 s196.2.1)), (16, (.pointer (some ⟨b391, 0, none⟩))), (21, (.int .i64 v2697))] ∧ KM.le K K2682 ∧ SlK 63 K2682 a42 c43 x40.Params ∧ SlK 77 K2682 a45 c46 x40.Code ∧ SlK 92 K2682 a48 c49 x40.Handlers ∧ SlK 63 K2682 a378 c379 x373.1.Params ∧ OwnS 77 K2682 (.slice a381 x373.1.Code.length c382) x373.1.Code C2690 ∧ OwnS 92 K2682 (.slice a384 x373.1.Handlers.length c385) x373.1.Handlers C2695 ∧ Sat w K2682 (flat [[(b54, Cl [(.string x40.Name), (.slice a42 x40.Params.length c43), (.int .i64 x40.Ret.Kind), (.string x40.Ret.Class), (.bool x40.Static), (.bool x40.Abstract), (.int .i64 x40.Locals), (.slice a45 x40.Code.length c46), (.slice a48 x40.Handlers.length c49)] 67)], [(b391, Cl [(.string x373.1.Name), (.slice a378 x373.1.Params.length c379), (.int .i64 x373.1.Ret.Kind), (.string x373.1.Ret.Class), (.bool x373.1.Static), (.bool x373.1.Abstract), (.int .i64 x373.1.Locals), (.slice a381 x373.1.Code.length c382), (.slice a384 x373.1.Handlers.length c385)] 67)], C2690, C2695, L])) _ ⟨0, K879, C887, C892, hf, rfl, hle, h880, h881, h882, h883, h884, h889, hS⟩ ⟨rfl, rfl, rfl, rfl, rfl, trivial⟩ ?_ ?_
    · rintro _ _ ⟨_, _, _, _, hf, _⟩
      exact absurd hf (by simp [bonsailaw19_RewriteLands.l2])
    rintro n _ w Y hY ⟨v2697, K2682, C2690, C2695, hf, rfl, hle, h2683, h2684, h2685, h2686, h2687, h2692, hS⟩
    rw [bonsailaw19_RewriteLands.l2] at hf
    refine s_seq (s_seq (s_reg ?_))
    iterate 2 refine s_v rfl rfl rfl ?_
    refine s_ld 0 hS rfl rfl rfl rfl rfl ?_
    iterate 2 refine s_v rfl rfl rfl ?_
    refine s_nil (qn ?_)
    refine s_if rfl (fun hc => ?_) (fun hc => ?_)
    · replace hf := bif_t hc hf
      refine s_skip (qn (s_seq (s_block (s_seq ?_))))
      obtain ⟨s2784, hst2785, hf⟩ := Option.bind_eq_some_iff.1 hf
      refine s_cut1 (fun τ w => ∃ (K2765 : KM) (C2773 : Chunks) (C2778 : Chunks) (b2780 : Nat) (b2782 : Nat), τ = [(10, (.pointer (some ⟨b54, 0, none⟩))), (12, (.int .i64 s196.1)), (13, (.int .i64 s196.2.1)), (16, (.pointer (some ⟨b391, 0, none⟩))), (21, (.int .i64 v2697)), (22, (.pointer (some ⟨b2780, 0, none⟩))), (23, (.pointer (some ⟨b2782, 0, none⟩)))] ∧ KM.le K K2765 ∧ SlK 63 K2765 a42 c43 x40.Params ∧ SlK 77 K2765 a45 c46 x40.Code ∧ SlK 92 K2765 a48 c49 x40.Handlers ∧ SlK 63 K2765 a378 c379 x373.1.Params ∧ OwnS 77 K2765 (.slice a381 x373.1.Code.length c382) x373.1.Code C2773 ∧ OwnS 92 K2765 (.slice a384 x373.1.Handlers.length c385) x373.1.Handlers C2778 ∧ Sat w K2765 (flat [[(b54, Cl [(.string x40.Name), (.slice a42 x40.Params.length c43), (.int .i64 x40.Ret.Kind), (.string x40.Ret.Class), (.bool x40.Static), (.bool x40.Abstract), (.int .i64 x40.Locals), (.slice a45 x40.Code.length c46), (.slice a48 x40.Handlers.length c49)] 67)], [(b391, Cl [(.string x373.1.Name), (.slice a378 x373.1.Params.length c379), (.int .i64 x373.1.Ret.Kind), (.string x373.1.Ret.Class), (.bool x373.1.Static), (.bool x373.1.Abstract), (.int .i64 x373.1.Locals), (.slice a381 x373.1.Code.length c382), (.slice a384 x373.1.Handlers.length c385)] 67)], C2773, C2778, [(b2780, Cl [(.int .i64 s2784.1), (.int .i64 s2784.2.1), (.int .i64 s2784.2.2.1), (.string s2784.2.2.2.1)] 92)], [(b2782, Cl [(.int .i64 s2784.2.2.2.2.1), (.int .i64 s2784.2.2.2.2.2.1), (.int .i64 s2784.2.2.2.2.2.2.1), (.string s2784.2.2.2.2.2.2.2)] 92)], L])) (fun J hJ => ?_) ?_
      · replace hf := hst2785
        refine d_start [0, 1, 3] [] hS ?_
        intro w hS
        refine d_v 0 (fun _ _ _ _ _ h => h) [0, 1, 3] hS rfl rfl rfl (by kernel_rfl) rfl rfl ?_
        refine d_ld 1 0 (fun _ _ _ _ _ h => h) [0, 1, 3] hS rfl rfl rfl rfl rfl (by kernel_rfl) rfl rfl ?_
        refine d_v 2 (fun _ _ _ _ _ h => h) [0, 1, 3] hS rfl rfl rfl (by kernel_rfl) rfl rfl ?_
        obtain ⟨x2831, hx2832, hf⟩ := Option.bind_eq_some_iff.1 hf
        refine d_ixk 3 (fun _ _ _ _ _ h => h) [0, 1, 3] hS h2685 rfl hx2832 rfl rfl rfl rfl rfl rfl rfl (by kernel_rfl) rfl rfl ?_
        rintro b2833 o2834 _ rfl h2835
        refine d_ldk (v := (.agg #[(.int .i64 x2831.From), (.int .i64 x2831.To), (.int .i64 x2831.At), (.string x2831.Catch)])) 4 0 (fun _ _ _ _ _ h => h) [0, 1, 3] hS h2835 rfl rfl rfl rfl (by kernel_rfl) rfl rfl ?_
        refine d_v 5 (fun _ _ _ _ _ h => h) [0, 1, 3] hS rfl rfl rfl (by kernel_rfl) rfl rfl ?_
        refine d_ld 6 1 (fun _ _ _ _ _ h => h) [0, 1, 3] hS rfl rfl rfl rfl rfl (by kernel_rfl) rfl rfl ?_
        refine d_v 7 (fun _ _ _ _ _ h => h) [0, 1, 3] hS rfl rfl rfl (by kernel_rfl) rfl rfl ?_
        obtain ⟨x2836, hx2837, hf⟩ := Option.bind_eq_some_iff.1 hf
        refine d_ixo 8 3 (fun _ _ _ _ _ h => h) [0, 1, 3] hS rfl h2692 hx2837 rfl rfl rfl rfl rfl rfl rfl (by kernel_rfl) rfl rfl ?_
        intro b2838 l2839 cs2842 l2840 hcs_ hC2843 hun2841
        obtain rfl := hcs_
        subst hC2843
        have hq2844 := KM.le.refl K2682
        refine d_ldm (v := (.agg #[(.int .i64 x2836.From), (.int .i64 x2836.To), (.int .i64 x2836.At), (.string x2836.Catch)])) 9 2 0 (fun _ _ _ _ _ h => h) [0, 1, 3] hS rfl rfl rfl rfl rfl (by kernel_rfl) rfl rfl ?_
        refine d_ops [10, 11] (by kernel_rfl) rfl (.cons ⟨rfl, (by kernel_rfl), fun X hX => ?_⟩ (.cons ⟨rfl, (by kernel_rfl), fun X hX => ?_⟩ AllB.nil))
        · have hlq := KM.le.refl K2682
          refine s_al hS rfl rfl rfl ?_
          intro b2845 w hS
          replace hS : Sat w K2682 (flat ([(b2845, Cl [(.int .i64 0), (.int .i64 0), (.int .i64 0), (.string ByteArray.empty)] 92)] :: _)) := hS
          refine d_go [1, 2, 4] [1, 2, 4] [] [] hX hS hlq rfl rfl trivial ?_
          refine d_op 11 rfl (by kernel_rfl) (by kernel_rfl) (fun X hX => ?_)
          have hlq := KM.le.refl K2682
          refine s_al hS rfl rfl rfl ?_
          intro b2847 w hS
          replace hS : Sat w K2682 (flat ([(b2847, Cl [(.int .i64 0), (.int .i64 0), (.int .i64 0), (.string ByteArray.empty)] 92)] :: _)) := hS
          refine d_go [2, 3, 5] [2, 3, 5] [] [] hX hS hlq rfl rfl trivial ?_
          refine d_op 12 rfl (by kernel_rfl) (by kernel_rfl) (fun X hX => ?_)
          have hlq := KM.le.refl K2682
          refine s_st (cs' := [(.int .i64 x2831.From), (.int .i64 x2831.To), (.int .i64 x2831.At), (.string x2831.Catch)]) 1 hS rfl rfl rfl rfl rfl ?_
          intro w hS
          replace hS : Sat w _ (flat [_, _, _, _, _, _, _]) := hS
          refine d_go [2, 3, 5] [2, 3, 5] [] [] hX hS hlq rfl rfl trivial ?_
          refine d_op 13 rfl (by kernel_rfl) (by kernel_rfl) (fun X hX => ?_)
          have hlq := KM.le.refl K2682
          refine s_st (cs' := [(.int .i64 x2836.From), (.int .i64 x2836.To), (.int .i64 x2836.At), (.string x2836.Catch)]) 0 hS rfl rfl rfl rfl rfl ?_
          intro w hS
          replace hS : Sat w _ (flat [_, _, _, _, _, _, _]) := hS
          refine d_go [2, 3, 5] [2, 3, 5] [] [] hX hS hlq rfl rfl trivial ?_
          refine d_end (by kernel_rfl) ?_
          refine qn ?_
          have hq := Option.some.inj hf
          subst hq
          refine s_join hJ _ ⟨K2682, C2690, [(b2838, Cl (l2839 ++ (([(.int .i64 x2836.From), (.int .i64 x2836.To), (.int .i64 x2836.At), (.string x2836.Catch)] : List Value) ++ l2840)) 92)], b2845, b2847, rfl, hle, h2683, h2684, h2685, h2686, h2687, h2692, (hS.sel [2, 3, 4, 5, 1, 0, 6] rfl)⟩ ⟨rfl, rfl, rfl, rfl, rfl, rfl, rfl, trivial⟩
        replace hf : (some (x2831.From, x2831.To, x2831.At, x2831.Catch, x2836.From, x2836.To, x2836.At, x2836.Catch)) = _ := Eq.trans (by simp only [guardB, cond_true, Option.bind_some]) hf
        have hlq := KM.le.refl K2682
        refine s_al hS rfl rfl rfl ?_
        intro b2849 w hS
        replace hS : Sat w K2682 (flat ([(b2849, Cl [(.int .i64 0), (.int .i64 0), (.int .i64 0), (.string ByteArray.empty)] 92)] :: _)) := hS
        refine d_go [1, 2, 4] [1, 2, 4] [] [] hX hS hlq rfl rfl trivial ?_
        refine d_op 10 rfl (by kernel_rfl) (by kernel_rfl) (fun X hX => ?_)
        have hlq := KM.le.refl K2682
        refine s_al hS rfl rfl rfl ?_
        intro b2851 w hS
        replace hS : Sat w K2682 (flat ([(b2851, Cl [(.int .i64 0), (.int .i64 0), (.int .i64 0), (.string ByteArray.empty)] 92)] :: _)) := hS
        refine d_go [2, 3, 5] [2, 3, 5] [] [] hX hS hlq rfl rfl trivial ?_
        refine d_op 12 rfl (by kernel_rfl) (by kernel_rfl) (fun X hX => ?_)
        have hlq := KM.le.refl K2682
        refine s_st (cs' := [(.int .i64 x2831.From), (.int .i64 x2831.To), (.int .i64 x2831.At), (.string x2831.Catch)]) 0 hS rfl rfl rfl rfl rfl ?_
        intro w hS
        replace hS : Sat w _ (flat [_, _, _, _, _, _, _]) := hS
        refine d_go [2, 3, 5] [2, 3, 5] [] [] hX hS hlq rfl rfl trivial ?_
        refine d_op 13 rfl (by kernel_rfl) (by kernel_rfl) (fun X hX => ?_)
        have hlq := KM.le.refl K2682
        refine s_st (cs' := [(.int .i64 x2836.From), (.int .i64 x2836.To), (.int .i64 x2836.At), (.string x2836.Catch)]) 1 hS rfl rfl rfl rfl rfl ?_
        intro w hS
        replace hS : Sat w _ (flat [_, _, _, _, _, _, _]) := hS
        refine d_go [2, 3, 5] [2, 3, 5] [] [] hX hS hlq rfl rfl trivial ?_
        refine d_end (by kernel_rfl) ?_
        refine qn ?_
        have hq := Option.some.inj hf
        subst hq
        refine s_join hJ _ ⟨K2682, C2690, [(b2838, Cl (l2839 ++ (([(.int .i64 x2836.From), (.int .i64 x2836.To), (.int .i64 x2836.At), (.string x2836.Catch)] : List Value) ++ l2840)) 92)], b2851, b2849, rfl, hle, h2683, h2684, h2685, h2686, h2687, h2692, (hS.sel [2, 3, 4, 5, 0, 1, 6] rfl)⟩ ⟨rfl, rfl, rfl, rfl, rfl, rfl, rfl, trivial⟩
      rintro _ w ⟨K2765, C2773, C2778, b2780, b2782, rfl, hle, h2766, h2767, h2768, h2769, h2770, h2775, hS⟩
      refine qn ?_
      obtain ⟨s2898, hst2899, hf⟩ := Option.bind_eq_some_iff.1 hf
      refine s_cut (fun τ w => ∃ (K2883 : KM) (C2891 : Chunks) (C2896 : Chunks), τ = [(10, (.pointer (some ⟨b54, 0, none⟩))), (12, (.int .i64 s196.1)), (13, (.int .i64 s196.2.1)), (16, (.pointer (some ⟨b391, 0, none⟩))), (21, (.int .i64 v2697)), (203, (.bool s2898))] ∧ KM.le K K2883 ∧ SlK 63 K2883 a42 c43 x40.Params ∧ SlK 77 K2883 a45 c46 x40.Code ∧ SlK 92 K2883 a48 c49 x40.Handlers ∧ SlK 63 K2883 a378 c379 x373.1.Params ∧ OwnS 77 K2883 (.slice a381 x373.1.Code.length c382) x373.1.Code C2891 ∧ OwnS 92 K2883 (.slice a384 x373.1.Handlers.length c385) x373.1.Handlers C2896 ∧ Sat w K2883 (flat [[(b54, Cl [(.string x40.Name), (.slice a42 x40.Params.length c43), (.int .i64 x40.Ret.Kind), (.string x40.Ret.Class), (.bool x40.Static), (.bool x40.Abstract), (.int .i64 x40.Locals), (.slice a45 x40.Code.length c46), (.slice a48 x40.Handlers.length c49)] 67)], [(b391, Cl [(.string x373.1.Name), (.slice a378 x373.1.Params.length c379), (.int .i64 x373.1.Ret.Kind), (.string x373.1.Ret.Class), (.bool x373.1.Static), (.bool x373.1.Abstract), (.int .i64 x373.1.Locals), (.slice a381 x373.1.Code.length c382), (.slice a384 x373.1.Handlers.length c385)] 67)], C2891, C2896, L])) (fun J hJ => ?_) ?_
      · replace hf := hst2899
        refine d_start [4, 5] [] hS ?_
        intro w hS
        refine d_v 0 (fun _ _ _ _ _ h => h) [4, 5] hS rfl rfl rfl (by kernel_rfl) rfl rfl ?_
        refine d_ld 1 1 (fun _ _ _ _ _ h => h) [4, 5] hS rfl rfl rfl rfl rfl (by kernel_rfl) rfl rfl ?_
        refine d_v 2 (fun _ _ _ _ _ h => h) [4, 5] hS rfl rfl rfl (by kernel_rfl) rfl rfl ?_
        refine d_ld 3 0 (fun _ _ _ _ _ h => h) [4, 5] hS rfl rfl rfl rfl rfl (by kernel_rfl) rfl rfl ?_
        refine d_v 4 (fun _ _ _ _ _ h => h) [4, 5] hS rfl rfl rfl (by kernel_rfl) rfl rfl ?_
        refine d_v 5 (fun _ _ _ _ _ h => h) [4, 5] hS rfl rfl rfl (by kernel_rfl) rfl rfl ?_
        refine d_op 6 rfl (by kernel_rfl) (by kernel_rfl) (fun X hX => ?_)
        have hlq := KM.le.refl K2765
        obtain ⟨x2915, hx2916, hf⟩ := Option.bind_eq_some_iff.1 hf
        refine s_call isf39 hS.nilG (bonsailaw19_moved_spec hx2916) rfl rfl rfl ?_
        rintro _ K2917 C2919 w hk2918 rfl hS
        replace hS := hS.drop1
        replace hlq := hlq.trans hk2918
        refine d_go [4, 5] [4, 5] [] [] hX hS hlq rfl rfl trivial ?_
        refine d_v 7 (fun _ _ _ _ _ h => h) [4, 5] hS rfl rfl rfl (by kernel_rfl) rfl rfl ?_
        refine d_v 8 (fun _ _ _ _ _ h => h) [4, 5] hS rfl rfl rfl (by kernel_rfl) rfl rfl ?_
        cases hc : (s2784.2.2.2.2.1 != x2915)
        · replace hf := bif_f hc hf
          refine d_v 9 (fun _ _ _ _ _ h => h) [4, 5] hS rfl rfl rfl (by kernel_rfl) rfl rfl ?_
          refine d_ld 10 1 (fun _ _ _ _ _ h => h) [4, 5] hS rfl rfl rfl rfl rfl (by kernel_rfl) rfl rfl ?_
          refine d_v 11 (fun _ _ _ _ _ h => h) [4, 5] hS rfl rfl rfl (by kernel_rfl) rfl rfl ?_
          refine d_ld 12 0 (fun _ _ _ _ _ h => h) [4, 5] hS rfl rfl rfl rfl rfl (by kernel_rfl) rfl rfl ?_
          refine d_v 13 (fun _ _ _ _ _ h => h) [4, 5] hS rfl rfl rfl (by kernel_rfl) rfl rfl ?_
          refine d_v 14 (fun _ _ _ _ _ h => h) [4, 5] hS rfl rfl rfl (by kernel_rfl) rfl rfl ?_
          refine d_op 15 rfl (by kernel_rfl) (by kernel_rfl) (fun X hX => ?_)
          have hlq := KM.le.refl K2917
          obtain ⟨x2920, hx2921, hf⟩ := Option.bind_eq_some_iff.1 hf
          refine s_call isf39 hS.nilG (bonsailaw19_moved_spec hx2921) rfl rfl rfl ?_
          rintro _ K2922 C2924 w hk2923 rfl hS
          replace hS := hS.drop1
          replace hlq := hlq.trans hk2923
          refine d_go [4, 5] [4, 5] [] [] hX hS hlq rfl rfl trivial ?_
          refine d_v 16 (fun _ _ _ _ _ h => h) [4, 5] hS rfl rfl rfl (by kernel_rfl) rfl rfl ?_
          refine d_v 17 (fun _ _ _ _ _ h => h) [4, 5] hS rfl rfl rfl (by kernel_rfl) rfl rfl ?_
          refine d_v 18 (fun _ _ _ _ _ h => h) [4, 5] hS rfl rfl rfl (by kernel_rfl) rfl rfl ?_
          cases hc : (s2784.2.2.2.2.2.1 != x2920)
          · replace hf := bif_f hc hf
            refine d_v 19 (fun _ _ _ _ _ h => h) [4, 5] hS rfl rfl rfl (by kernel_rfl) rfl rfl ?_
            refine d_ld 20 1 (fun _ _ _ _ _ h => h) [4, 5] hS rfl rfl rfl rfl rfl (by kernel_rfl) rfl rfl ?_
            refine d_v 21 (fun _ _ _ _ _ h => h) [4, 5] hS rfl rfl rfl (by kernel_rfl) rfl rfl ?_
            refine d_ld 22 0 (fun _ _ _ _ _ h => h) [4, 5] hS rfl rfl rfl rfl rfl (by kernel_rfl) rfl rfl ?_
            refine d_v 23 (fun _ _ _ _ _ h => h) [4, 5] hS rfl rfl rfl (by kernel_rfl) rfl rfl ?_
            refine d_v 24 (fun _ _ _ _ _ h => h) [4, 5] hS rfl rfl rfl (by kernel_rfl) rfl rfl ?_
            refine d_op 25 rfl (by kernel_rfl) (by kernel_rfl) (fun X hX => ?_)
            have hlq := KM.le.refl K2922
            obtain ⟨x2925, hx2926, hf⟩ := Option.bind_eq_some_iff.1 hf
            refine s_call isf39 hS.nilG (bonsailaw19_moved_spec hx2926) rfl rfl rfl ?_
            rintro _ K2927 C2929 w hk2928 rfl hS
            replace hS := hS.drop1
            replace hlq := hlq.trans hk2928
            refine d_go [4, 5] [4, 5] [] [] hX hS hlq rfl rfl trivial ?_
            refine d_v 26 (fun _ _ _ _ _ h => h) [4, 5] hS rfl rfl rfl (by kernel_rfl) rfl rfl ?_
            refine d_v 27 (fun _ _ _ _ _ h => h) [4, 5] hS rfl rfl rfl (by kernel_rfl) rfl rfl ?_
            refine d_v 28 (fun _ _ _ _ _ h => h) [4, 5] hS rfl rfl rfl (by kernel_rfl) rfl rfl ?_
            cases hc : (s2784.2.2.2.2.2.2.1 != x2925)
            · replace hf := bif_f hc hf
              refine d_v 29 (fun _ _ _ _ _ h => h) [4, 5] hS rfl rfl rfl (by kernel_rfl) rfl rfl ?_
              refine d_ld 30 1 (fun _ _ _ _ _ h => h) [4, 5] hS rfl rfl rfl rfl rfl (by kernel_rfl) rfl rfl ?_
              refine d_v 31 (fun _ _ _ _ _ h => h) [4, 5] hS rfl rfl rfl (by kernel_rfl) rfl rfl ?_
              refine d_ld 32 0 (fun _ _ _ _ _ h => h) [4, 5] hS rfl rfl rfl rfl rfl (by kernel_rfl) rfl rfl ?_
              refine d_v 33 (fun _ _ _ _ _ h => h) [4, 5] hS rfl rfl rfl (by kernel_rfl) rfl rfl ?_
              refine d_v 34 (fun _ _ _ _ _ h => h) [4, 5] hS rfl rfl rfl (by kernel_rfl) rfl rfl ?_
              refine d_end (by kernel_rfl) ?_
              refine qn ?_
              have hq := Option.some.inj hf
              subst hq
              replace h2766 := h2766.mono ((hk2918.trans hk2923).trans hk2928)
              replace h2767 := h2767.mono ((hk2918.trans hk2923).trans hk2928)
              replace h2768 := h2768.mono ((hk2918.trans hk2923).trans hk2928)
              replace h2769 := h2769.mono ((hk2918.trans hk2923).trans hk2928)
              replace h2770 := h2770.mono ((hk2918.trans hk2923).trans hk2928)
              replace h2775 := h2775.mono ((hk2918.trans hk2923).trans hk2928)
              replace hle := hle.trans ((hk2918.trans hk2923).trans hk2928)
              refine s_join hJ _ ⟨K2927, C2773, C2778, rfl, hle, h2766, h2767, h2768, h2769, h2770, h2775, (hS.sel [0, 1, 2, 3, 6] rfl)⟩ ⟨rfl, rfl, rfl, rfl, rfl, rfl, trivial⟩
            replace hf := bif_t hc hf
            refine d_no 29 (fun _ _ _ _ _ h => h) [4, 5] hS rfl rfl (by kernel_rfl) rfl rfl ?_
            refine d_no 30 (fun _ _ _ _ _ h => h) [4, 5] hS rfl rfl (by kernel_rfl) rfl rfl ?_
            refine d_no 31 (fun _ _ _ _ _ h => h) [4, 5] hS rfl rfl (by kernel_rfl) rfl rfl ?_
            refine d_no 32 (fun _ _ _ _ _ h => h) [4, 5] hS rfl rfl (by kernel_rfl) rfl rfl ?_
            refine d_no 33 (fun _ _ _ _ _ h => h) [4, 5] hS rfl rfl (by kernel_rfl) rfl rfl ?_
            refine d_v 34 (fun _ _ _ _ _ h => h) [4, 5] hS rfl rfl rfl (by kernel_rfl) rfl rfl ?_
            refine d_end (by kernel_rfl) ?_
            refine qn ?_
            have hq := Option.some.inj hf
            subst hq
            replace h2766 := h2766.mono ((hk2918.trans hk2923).trans hk2928)
            replace h2767 := h2767.mono ((hk2918.trans hk2923).trans hk2928)
            replace h2768 := h2768.mono ((hk2918.trans hk2923).trans hk2928)
            replace h2769 := h2769.mono ((hk2918.trans hk2923).trans hk2928)
            replace h2770 := h2770.mono ((hk2918.trans hk2923).trans hk2928)
            replace h2775 := h2775.mono ((hk2918.trans hk2923).trans hk2928)
            replace hle := hle.trans ((hk2918.trans hk2923).trans hk2928)
            refine s_join hJ _ ⟨K2927, C2773, C2778, rfl, hle, h2766, h2767, h2768, h2769, h2770, h2775, (hS.sel [0, 1, 2, 3, 6] rfl)⟩ ⟨rfl, rfl, rfl, rfl, rfl, rfl, trivial⟩
          replace hf := bif_t hc hf
          refine d_no 19 (fun _ _ _ _ _ h => h) [4, 5] hS rfl rfl (by kernel_rfl) rfl rfl ?_
          refine d_no 20 (fun _ _ _ _ _ h => h) [4, 5] hS rfl rfl (by kernel_rfl) rfl rfl ?_
          refine d_no 21 (fun _ _ _ _ _ h => h) [4, 5] hS rfl rfl (by kernel_rfl) rfl rfl ?_
          refine d_no 22 (fun _ _ _ _ _ h => h) [4, 5] hS rfl rfl (by kernel_rfl) rfl rfl ?_
          refine d_no 23 (fun _ _ _ _ _ h => h) [4, 5] hS rfl rfl (by kernel_rfl) rfl rfl ?_
          refine d_no 24 (fun _ _ _ _ _ h => h) [4, 5] hS rfl rfl (by kernel_rfl) rfl rfl ?_
          refine d_no 25 (fun _ _ _ _ _ h => h) [4, 5] hS rfl rfl (by kernel_rfl) rfl rfl ?_
          refine d_no 26 (fun _ _ _ _ _ h => h) [4, 5] hS rfl rfl (by kernel_rfl) rfl rfl ?_
          refine d_v 27 (fun _ _ _ _ _ h => h) [4, 5] hS rfl rfl rfl (by kernel_rfl) rfl rfl ?_
          refine d_v 28 (fun _ _ _ _ _ h => h) [4, 5] hS rfl rfl rfl (by kernel_rfl) rfl rfl ?_
          refine d_no 29 (fun _ _ _ _ _ h => h) [4, 5] hS rfl rfl (by kernel_rfl) rfl rfl ?_
          refine d_no 30 (fun _ _ _ _ _ h => h) [4, 5] hS rfl rfl (by kernel_rfl) rfl rfl ?_
          refine d_no 31 (fun _ _ _ _ _ h => h) [4, 5] hS rfl rfl (by kernel_rfl) rfl rfl ?_
          refine d_no 32 (fun _ _ _ _ _ h => h) [4, 5] hS rfl rfl (by kernel_rfl) rfl rfl ?_
          refine d_no 33 (fun _ _ _ _ _ h => h) [4, 5] hS rfl rfl (by kernel_rfl) rfl rfl ?_
          refine d_v 34 (fun _ _ _ _ _ h => h) [4, 5] hS rfl rfl rfl (by kernel_rfl) rfl rfl ?_
          refine d_end (by kernel_rfl) ?_
          refine qn ?_
          have hq := Option.some.inj hf
          subst hq
          replace h2766 := h2766.mono (hk2918.trans hk2923)
          replace h2767 := h2767.mono (hk2918.trans hk2923)
          replace h2768 := h2768.mono (hk2918.trans hk2923)
          replace h2769 := h2769.mono (hk2918.trans hk2923)
          replace h2770 := h2770.mono (hk2918.trans hk2923)
          replace h2775 := h2775.mono (hk2918.trans hk2923)
          replace hle := hle.trans (hk2918.trans hk2923)
          refine s_join hJ _ ⟨K2922, C2773, C2778, rfl, hle, h2766, h2767, h2768, h2769, h2770, h2775, (hS.sel [0, 1, 2, 3, 6] rfl)⟩ ⟨rfl, rfl, rfl, rfl, rfl, rfl, trivial⟩
        replace hf := bif_t hc hf
        refine d_no 9 (fun _ _ _ _ _ h => h) [4, 5] hS rfl rfl (by kernel_rfl) rfl rfl ?_
        refine d_no 10 (fun _ _ _ _ _ h => h) [4, 5] hS rfl rfl (by kernel_rfl) rfl rfl ?_
        refine d_no 11 (fun _ _ _ _ _ h => h) [4, 5] hS rfl rfl (by kernel_rfl) rfl rfl ?_
        refine d_no 12 (fun _ _ _ _ _ h => h) [4, 5] hS rfl rfl (by kernel_rfl) rfl rfl ?_
        refine d_no 13 (fun _ _ _ _ _ h => h) [4, 5] hS rfl rfl (by kernel_rfl) rfl rfl ?_
        refine d_no 14 (fun _ _ _ _ _ h => h) [4, 5] hS rfl rfl (by kernel_rfl) rfl rfl ?_
        refine d_no 15 (fun _ _ _ _ _ h => h) [4, 5] hS rfl rfl (by kernel_rfl) rfl rfl ?_
        refine d_no 16 (fun _ _ _ _ _ h => h) [4, 5] hS rfl rfl (by kernel_rfl) rfl rfl ?_
        refine d_v 17 (fun _ _ _ _ _ h => h) [4, 5] hS rfl rfl rfl (by kernel_rfl) rfl rfl ?_
        refine d_v 18 (fun _ _ _ _ _ h => h) [4, 5] hS rfl rfl rfl (by kernel_rfl) rfl rfl ?_
        refine d_no 19 (fun _ _ _ _ _ h => h) [4, 5] hS rfl rfl (by kernel_rfl) rfl rfl ?_
        refine d_no 20 (fun _ _ _ _ _ h => h) [4, 5] hS rfl rfl (by kernel_rfl) rfl rfl ?_
        refine d_no 21 (fun _ _ _ _ _ h => h) [4, 5] hS rfl rfl (by kernel_rfl) rfl rfl ?_
        refine d_no 22 (fun _ _ _ _ _ h => h) [4, 5] hS rfl rfl (by kernel_rfl) rfl rfl ?_
        refine d_no 23 (fun _ _ _ _ _ h => h) [4, 5] hS rfl rfl (by kernel_rfl) rfl rfl ?_
        refine d_no 24 (fun _ _ _ _ _ h => h) [4, 5] hS rfl rfl (by kernel_rfl) rfl rfl ?_
        refine d_no 25 (fun _ _ _ _ _ h => h) [4, 5] hS rfl rfl (by kernel_rfl) rfl rfl ?_
        refine d_no 26 (fun _ _ _ _ _ h => h) [4, 5] hS rfl rfl (by kernel_rfl) rfl rfl ?_
        refine d_v 27 (fun _ _ _ _ _ h => h) [4, 5] hS rfl rfl rfl (by kernel_rfl) rfl rfl ?_
        refine d_v 28 (fun _ _ _ _ _ h => h) [4, 5] hS rfl rfl rfl (by kernel_rfl) rfl rfl ?_
        refine d_no 29 (fun _ _ _ _ _ h => h) [4, 5] hS rfl rfl (by kernel_rfl) rfl rfl ?_
        refine d_no 30 (fun _ _ _ _ _ h => h) [4, 5] hS rfl rfl (by kernel_rfl) rfl rfl ?_
        refine d_no 31 (fun _ _ _ _ _ h => h) [4, 5] hS rfl rfl (by kernel_rfl) rfl rfl ?_
        refine d_no 32 (fun _ _ _ _ _ h => h) [4, 5] hS rfl rfl (by kernel_rfl) rfl rfl ?_
        refine d_no 33 (fun _ _ _ _ _ h => h) [4, 5] hS rfl rfl (by kernel_rfl) rfl rfl ?_
        refine d_v 34 (fun _ _ _ _ _ h => h) [4, 5] hS rfl rfl rfl (by kernel_rfl) rfl rfl ?_
        refine d_end (by kernel_rfl) ?_
        refine qn ?_
        have hq := Option.some.inj hf
        subst hq
        replace h2766 := h2766.mono hk2918
        replace h2767 := h2767.mono hk2918
        replace h2768 := h2768.mono hk2918
        replace h2769 := h2769.mono hk2918
        replace h2770 := h2770.mono hk2918
        replace h2775 := h2775.mono hk2918
        replace hle := hle.trans hk2918
        refine s_join hJ _ ⟨K2917, C2773, C2778, rfl, hle, h2766, h2767, h2768, h2769, h2770, h2775, (hS.sel [0, 1, 2, 3, 6] rfl)⟩ ⟨rfl, rfl, rfl, rfl, rfl, rfl, trivial⟩
      rintro _ w ⟨K2883, C2891, C2896, rfl, hle, h2884, h2885, h2886, h2887, h2888, h2893, hS⟩
      refine s_if rfl (fun hc => ?_) (fun hc => ?_)
      · replace hf := bif_t hc hf
        refine s_seq (s_reg ?_)
        refine s_v rfl rfl rfl ?_
        refine s_nil (qn ?_)
        replace hS : Sat w K2883 (flat [_]) := (hS.sel [4] rfl)
        refine s_rets (qrb (qrt (qrt (qrb (qrt ?_)))))
        replace hf := LR.esc_some hf hm2171
        have hq := Option.some.inj hf
        subst hq
        refine s_ret1 rfl (rv_t rfl) ?_
        exact ⟨K2883, _, hle, rfl, Sat.nilG (hS.sel [0] rfl)⟩
      replace hf := bif_f hc hf
      refine s_skip (qbn (qn (s_reg ?_)))
      iterate 3 refine s_v rfl rfl rfl ?_
      refine s_nil (qn ?_)
      refine s_join hY _ ⟨w64 (v2697 + 1), K2883, C2891, C2896, hf, rfl, hle, h2884, h2885, h2886, h2887, h2888, h2893, hS⟩ ⟨rfl, rfl, rfl, rfl, rfl, trivial⟩
    replace hf := bif_f hc hf
    refine s_exit (qxt (qxt (qxb (qn ?_))))
    have hq := Option.some.inj hf
    subst hq
    refine s_join hJ _ ⟨(), K2682, rfl, rfl, hle, (hS.sel [4] rfl)⟩ trivial
  rintro _ w ⟨s2168, K2167, rfl, rfl, hle, hS⟩
  replace hf := LR.elim_brk hm2171
  refine s_seq (s_reg ?_)
  refine s_v rfl rfl rfl ?_
  refine s_nil (qn (s_rets ?_))
  have hq := Option.some.inj hf
  subst hq
  refine s_ret1 rfl (rv_t rfl) ?_
  exact ⟨K2167, _, hle, rfl, Sat.nilG (hS.sel [0] rfl)⟩
end Go.Proofs.Ytgaldjnnfkdohaa
