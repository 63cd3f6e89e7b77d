/- Functions of the program, and their walks: what each reckons, and that its code reckons it. -/
import Derived.Test.YtgaldjnnfkdohaaFg
set_option linter.unusedVariables false
set_option linter.unusedSimpArgs false
set_option maxHeartbeats 0
set_option maxRecDepth 100000
namespace Go.Proofs.Ytgaldjnnfkdohaa
open Go Go.Fw
noncomputable def bod11 : Code := Try.f11.body.getD .skip
theorem isf11 : IsFn Try.prog 11 Try.f11 bod11 := ⟨Try.func11, rfl, by decide⟩
-- 33 bonsai/rewrite.Method
theorem rewrite_Method_spec_b1 {K : KM} {fu : Nat} {p1 : api_Method} {p11 : (List (List api_Instr))} {r : (api_Method × Bool)} {a2 : Option Addr} {c3 : Nat} {a5 : Option Addr} {c6 : Nat} {a8 : Option Addr} {c9 : Nat} {a12 : Option Addr} {c13 : Nat} {C15 : Chunks} (hf : rewrite_Method.fn fu p1 p11 = some r) (h4 : SlK 63 K a2 c3 p1.Params) (h7 : SlK 77 K a5 c6 p1.Code) (h10 : SlK 92 K a8 c9 p1.Handlers) (h14 : OwnS 64 K (.slice a12 p11.length c13) p11 C15) : Sp Try.prog 33 [(.agg #[(.string p1.Name), (.slice a2 p1.Params.length c3), (.int .i64 p1.Ret.Kind), (.string p1.Ret.Class), (.bool p1.Static), (.bool p1.Abstract), (.int .i64 p1.Locals), (.slice a5 p1.Code.length c6), (.slice a8 p1.Handlers.length c9)]), (.slice a12 p11.length c13)] K (flat [C15]) (fun K' C v => ∃ (a3678 : Option Addr) (c3679 : Nat) (a3681 : Option Addr) (c3682 : Nat) (a3684 : Option Addr) (c3685 : Nat) (C_0 : Chunks) (C_1 : Chunks) (C_b1 : Chunks), v = (.tuple #[(.agg #[(.string r.1.Name), (.slice a3678 r.1.Params.length c3679), (.int .i64 r.1.Ret.Kind), (.string r.1.Ret.Class), (.bool r.1.Static), (.bool r.1.Abstract), (.int .i64 r.1.Locals), (.slice a3681 r.1.Code.length c3682), (.slice a3684 r.1.Handlers.length c3685)]), (.bool r.2)]) ∧ SlK 63 K' a3678 c3679 r.1.Params ∧ OwnS 77 K' (.slice a3681 r.1.Code.length c3682) r.1.Code C_0 ∧ OwnS 92 K' (.slice a3684 r.1.Handlers.length c3685) r.1.Handlers C_1 ∧ OwnS 64 K' (.slice a12 p11.length c13) p11 C_b1 ∧ C = flat [C_0, C_1, C_b1]) := by
  unfold rewrite_Method.fn at hf
  refine spec_enter isf33 rfl ?_
  intro w L hS
  replace hS : Sat w K (flat [C15, L]) := hS.open
  have hle := KM.le.refl K
  unfold bod33 Try.f33
  dsimp only [Option.getD_some, argSlots]
  refine s_seq (s_reg ?_)
  refine s_bx hS rfl rfl rfl ?_
  intro b18 w hS
  replace hS : Sat w K (flat ([(b18, Cl [(.string p1.Name), (.slice a2 p1.Params.length c3), (.int .i64 p1.Ret.Kind), (.string p1.Ret.Class), (.bool p1.Static), (.bool p1.Abstract), (.int .i64 p1.Locals), (.slice a5 p1.Code.length c6), (.slice a8 p1.Handlers.length c9)] 67)] :: _)) := hS
  refine s_al hS rfl rfl rfl ?_
  intro b20 w hS
  replace hS : Sat w K (flat ([(b20, Cl [(.string ByteArray.empty), (.slice none 0 0), (.int .i64 0), (.string ByteArray.empty), (.bool false), (.bool false), (.int .i64 0), (.slice none 0 0), (.slice none 0 0)] 67)] :: _)) := hS
  refine s_v rfl rfl rfl ?_
  refine s_nil (qn (s_seq (s_reg ?_)))
  refine s_v rfl rfl rfl ?_
  refine s_ld 1 hS rfl rfl rfl rfl rfl ?_
  iterate 2 refine s_v rfl rfl rfl ?_
  refine s_nil (qn (s_seq (s_reg ?_)))
  refine s_v rfl rfl rfl ?_
  refine s_nil (qn (s_seq (s_reg ?_)))
  refine s_v rfl rfl rfl ?_
  refine s_nil (qn ?_)
  obtain ⟨s685, hst686, hf⟩ := Option.bind_eq_some_iff.1 hf
  refine s_cut (fun τ w => ∃ (K666 : KM) (C670 : Chunks) (a676 : Option Addr) (c677 : Nat) (C678 : Chunks) (a681 : Option Addr) (c682 : Nat) (C683 : Chunks), τ = [(1, (.slice a12 p11.length c13)), (2, (.pointer (some ⟨b18, 0, none⟩))), (4, (.pointer (some ⟨b20, 0, none⟩))), (6, (.int .i64 (p1.Code.length : Int))), (7, (.slice a676 s685.1.length c677)), (8, (.slice a681 s685.2.length c682))] ∧ KM.le K K666 ∧ OwnS 64 K666 (.slice a12 p11.length c13) p11 C670 ∧ SlK 63 K666 a2 c3 p1.Params ∧ SlK 77 K666 a5 c6 p1.Code ∧ SlK 92 K666 a8 c9 p1.Handlers ∧ OwnS 77 K666 (.slice a676 s685.1.length c677) s685.1 C678 ∧ OwnS 3 K666 (.slice a681 s685.2.length c682) s685.2 C683 ∧ Sat w K666 (flat [C670, [(b18, Cl [(.string p1.Name), (.slice a2 p1.Params.length c3), (.int .i64 p1.Ret.Kind), (.string p1.Ret.Class), (.bool p1.Static), (.bool p1.Abstract), (.int .i64 p1.Locals), (.slice a5 p1.Code.length c6), (.slice a8 p1.Handlers.length c9)] 67)], [(b20, Cl [(.string ByteArray.empty), (.slice none 0 0), (.int .i64 0), (.string ByteArray.empty), (.bool false), (.bool false), (.int .i64 0), (.slice none 0 0), (.slice none 0 0)] 67)], C678, C683, L])) (fun J hJ => ?_) ?_
  · replace hf := hst686
    refine s_seq (s_reg ?_)
    refine s_v rfl rfl rfl ?_
    refine s_ld 1 hS rfl rfl rfl rfl rfl ?_
    iterate 2 refine s_v rfl rfl rfl ?_
    refine s_nil (qn (s_block ?_))
    replace hS := hS.nilG
    replace hS := hS.nilG
    refine s_loopp (fun n τ w => ∃ (v1138 : (List api_Instr)) (v1139 : (List Int)) (v1140 : Int) (K1118 : KM) (C1122 : Chunks) (a1128 : Option Addr) (c1129 : Nat) (C1130 : Chunks) (a1133 : Option Addr) (c1134 : Nat) (C1135 : Chunks), rewrite_Method.l0 fu p1 p11 n v1138 v1139 v1140 = some s685 ∧ τ = [(1, (.slice a12 p11.length c13)), (2, (.pointer (some ⟨b18, 0, none⟩))), (4, (.pointer (some ⟨b20, 0, none⟩))), (6, (.int .i64 (p1.Code.length : Int))), (7, (.slice a1128 v1138.length c1129)), (8, (.slice a1133 v1139.length c1134)), (19, (.slice a5 p1.Code.length c6)), (20, (.int .i64 (p1.Code.length : Int))), (21, (.int .i64 v1140))] ∧ KM.le K K1118 ∧ OwnS 64 K1118 (.slice a12 p11.length c13) p11 C1122 ∧ SlK 63 K1118 a2 c3 p1.Params ∧ SlK 77 K1118 a5 c6 p1.Code ∧ SlK 92 K1118 a8 c9 p1.Handlers ∧ OwnS 77 K1118 (.slice a1128 v1138.length c1129) v1138 C1130 ∧ OwnS 3 K1118 (.slice a1133 v1139.length c1134) v1139 C1135 ∧ SlK 77 K1118 a5 c6 p1.Code ∧ Sat w K1118 (flat [C1122, [(b18, Cl [(.string p1.Name), (.slice a2 p1.Params.length c3), (.int .i64 p1.Ret.Kind), (.string p1.Ret.Class), (.bool p1.Static), (.bool p1.Abstract), (.int .i64 p1.Locals), (.slice a5 p1.Code.length c6), (.slice a8 p1.Handlers.length c9)] 67)], [(b20, Cl [(.string ByteArray.empty), (.slice none 0 0), (.int .i64 0), (.string ByteArray.empty), (.bool false), (.bool false), (.int .i64 0), (.slice none 0 0), (.slice none 0 0)] 67)], C1130, C1135, L])) _ ⟨([] : List api_Instr), ([] : List Int), 0, K, C15, none, 0, [], none, 0, [], hf, rfl, hle, h14, h4, h7, h10, OwnS.nil, OwnS.nil, h7, (hS.sel [4, 3, 2, 1, 0, 5] rfl)⟩ ⟨rfl, rfl, rfl, rfl, rfl, rfl, rfl, rfl, rfl, trivial⟩ ?_ ?_
    · rintro _ _ ⟨_, _, _, _, _, _, _, _, _, _, _, hf, _⟩
      exact absurd hf (by simp [rewrite_Method.l0])
    rintro n _ w Y hY ⟨v1138, v1139, v1140, K1118, C1122, a1128, c1129, C1130, a1133, c1134, C1135, hf, rfl, hle, h1119, h1124, h1125, h1126, h1127, h1132, h1137, hS⟩
    rw [rewrite_Method.l0] at hf
    refine s_seq (s_reg ?_)
    refine s_v rfl rfl rfl ?_
    refine s_nil (qn (s_seq ?_))
    refine s_if rfl (fun hc => ?_) (fun hc => ?_)
    · replace hf := bif_t hc hf
      refine s_skip (qn ?_)
      obtain ⟨s1247, hst1248, hf⟩ := Option.bind_eq_some_iff.1 hf
      refine s_cut (fun τ w => ∃ (K1227 : KM) (C1231 : Chunks) (a1237 : Option Addr) (c1238 : Nat) (C1239 : Chunks) (a1242 : Option Addr) (c1243 : Nat) (C1244 : Chunks), τ = [(1, (.slice a12 p11.length c13)), (2, (.pointer (some ⟨b18, 0, none⟩))), (4, (.pointer (some ⟨b20, 0, none⟩))), (6, (.int .i64 (p1.Code.length : Int))), (7, (.slice a1237 s1247.length c1238)), (8, (.slice a1242 ((v1139 ++ ([(v1138.length : Int)] : List Int)).length) c1243)), (19, (.slice a5 p1.Code.length c6)), (20, (.int .i64 (p1.Code.length : Int))), (21, (.int .i64 v1140))] ∧ KM.le K K1227 ∧ OwnS 64 K1227 (.slice a12 p11.length c13) p11 C1231 ∧ SlK 63 K1227 a2 c3 p1.Params ∧ SlK 77 K1227 a5 c6 p1.Code ∧ SlK 92 K1227 a8 c9 p1.Handlers ∧ OwnS 77 K1227 (.slice a1237 s1247.length c1238) s1247 C1239 ∧ OwnS 3 K1227 (.slice a1242 ((v1139 ++ ([(v1138.length : Int)] : List Int)).length) c1243) (v1139 ++ ([(v1138.length : Int)] : List Int)) C1244 ∧ SlK 77 K1227 a5 c6 p1.Code ∧ Sat w K1227 (flat [C1231, [(b18, Cl [(.string p1.Name), (.slice a2 p1.Params.length c3), (.int .i64 p1.Ret.Kind), (.string p1.Ret.Class), (.bool p1.Static), (.bool p1.Abstract), (.int .i64 p1.Locals), (.slice a5 p1.Code.length c6), (.slice a8 p1.Handlers.length c9)] 67)], [(b20, Cl [(.string ByteArray.empty), (.slice none 0 0), (.int .i64 0), (.string ByteArray.empty), (.bool false), (.bool false), (.int .i64 0), (.slice none 0 0), (.slice none 0 0)] 67)], C1239, C1244, L])) (fun J hJ => ?_) ?_
      · replace hf := hst1248
        refine s_block (s_seq (s_reg ?_))
        refine s_v rfl rfl rfl ?_
        obtain ⟨x1249, hx1250, hf⟩ := Option.bind_eq_some_iff.1 hf
        refine s_ixk h1137 rfl hx1250 rfl rfl rfl rfl rfl rfl rfl ?_
        rintro b1251 o1252 _ rfl h1253
        refine s_ldk (v := (.agg #[(.int .i64 x1249.Op), (.int .i32 x1249.N), (.int .i64 x1249.K), (.string x1249.S), (.string x1249.Class), (.string x1249.Name), (.string x1249.Desc)])) 0 hS h1253 rfl rfl rfl rfl ?_
        refine s_al hS rfl rfl rfl ?_
        intro b1254 w hS
        replace hS : Sat w K1118 (flat ([(b1254, Cl [(.int .i64 0), (.int .i32 0), (.int .i64 0), (.string ByteArray.empty), (.string ByteArray.empty), (.string ByteArray.empty), (.string ByteArray.empty)] 77)] :: _)) := hS
        refine s_v rfl rfl rfl ?_
        refine s_st (cs' := [(.int .i64 x1249.Op), (.int .i32 x1249.N), (.int .i64 x1249.K), (.string x1249.S), (.string x1249.Class), (.string x1249.Name), (.string x1249.Desc)]) 0 hS rfl rfl rfl rfl rfl ?_
        intro w hS
        replace hS : Sat w _ (flat [_, _, _, _, _, _, _]) := hS
        refine s_nil (qn (s_seq (s_reg ?_)))
        iterate 3 refine s_v rfl rfl rfl ?_
        refine s_bwc (cs := [(.int .i64 (v1138.length : Int))]) hS rfl rfl rfl rfl rfl rfl rfl rfl rfl rfl ?_
        intro b1256 w hS
        obtain ⟨hm1258, hf⟩ := guardB_some hf
        refine s_appv (e := 3) (ys := ([(v1138.length : Int)] : List Int)) 6 0 hS rfl h1132 rfl ⟨[(.int .i64 (v1138.length : Int))], _, rfl, rfl, rfl⟩ rfl rfl rfl rfl rfl rfl rfl rfl (roomy_le hm1258) rfl rfl rfl ?_
        intro a1259 c1260 w C1261 h1262 hS
        replace hS : Sat w _ (flat [_, _, _, _, _, _, _, _]) := hS
        refine s_v rfl rfl rfl ?_
        refine s_nil (qn ?_)
        replace hS : Sat w K1118 (flat [_, _, _, _, _, _, _]) := (hS.sel [1, 2, 3, 4, 5, 6, 7] rfl)
        refine s_seq (s_reg ?_)
        iterate 5 refine s_v rfl rfl rfl ?_
        obtain ⟨s1295, hst1296, hf⟩ := Option.bind_eq_some_iff.1 hf
        refine r_cut [_, _, _, _, _, _, _] (fun τ w => ∃ (K1275 : KM) (C1279 : Chunks) (C1287 : Chunks) (C1292 : Chunks), τ = [(1, (.slice a12 p11.length c13)), (2, (.pointer (some ⟨b18, 0, none⟩))), (4, (.pointer (some ⟨b20, 0, none⟩))), (6, (.int .i64 (p1.Code.length : Int))), (7, (.slice a1128 v1138.length c1129)), (8, (.slice a1259 ((v1139 ++ ([(v1138.length : Int)] : List Int)).length) c1260)), (9, (.int .i64 v1140)), (10, (.pointer (some ⟨b1254, 0, none⟩))), (19, (.slice a5 p1.Code.length c6)), (20, (.int .i64 (p1.Code.length : Int))), (21, (.int .i64 v1140)), (42, (.bool s1295))] ∧ KM.le K K1275 ∧ OwnS 64 K1275 (.slice a12 p11.length c13) p11 C1279 ∧ SlK 63 K1275 a2 c3 p1.Params ∧ SlK 77 K1275 a5 c6 p1.Code ∧ SlK 92 K1275 a8 c9 p1.Handlers ∧ OwnS 77 K1275 (.slice a1128 v1138.length c1129) v1138 C1287 ∧ OwnS 3 K1275 (.slice a1259 ((v1139 ++ ([(v1138.length : Int)] : List Int)).length) c1260) (v1139 ++ ([(v1138.length : Int)] : List Int)) C1292 ∧ SlK 77 K1275 a5 c6 p1.Code ∧ Sat w K1275 (flat [C1279, [(b18, Cl [(.string p1.Name), (.slice a2 p1.Params.length c3), (.int .i64 p1.Ret.Kind), (.string p1.Ret.Class), (.bool p1.Static), (.bool p1.Abstract), (.int .i64 p1.Locals), (.slice a5 p1.Code.length c6), (.slice a8 p1.Handlers.length c9)] 67)], [(b20, Cl [(.string ByteArray.empty), (.slice none 0 0), (.int .i64 0), (.string ByteArray.empty), (.bool false), (.bool false), (.int .i64 0), (.slice none 0 0), (.slice none 0 0)] 67)], C1287, C1292, [(b1254, Cl [(.int .i64 x1249.Op), (.int .i32 x1249.N), (.int .i64 x1249.K), (.string x1249.S), (.string x1249.Class), (.string x1249.Name), (.string x1249.Desc)] 77)], L])) rfl (fun J hJ => ?_) ?_
        · replace hf := hst1296
          cases hc : (decide (v1140 < (p11.length : Int)))
          · replace hf := bif_f hc hf
            refine s_no rfl rfl ?_
            refine s_no rfl rfl ?_
            refine s_no rfl rfl ?_
            refine s_no rfl rfl ?_
            refine s_no rfl rfl ?_
            refine s_no rfl rfl ?_
            refine s_v rfl rfl rfl ?_
            have hq := Option.some.inj hf
            subst hq
            refine r_join hJ _ ⟨K1118, C1122, C1130, C1261, rfl, hle, h1119, h1124, h1125, h1126, h1127, h1262, h1137, (hS.sel [1, 2, 3, 4, 5, 0, 6] rfl)⟩ ⟨rfl, rfl, rfl, rfl, rfl, rfl, rfl, rfl, rfl, rfl, rfl, rfl, trivial⟩
          replace hf := bif_t hc hf
          iterate 2 refine s_v rfl rfl rfl ?_
          obtain ⟨x1297, hx1298, hf⟩ := Option.bind_eq_some_iff.1 hf
          refine s_ixo 1 hS rfl h1119 hx1298 rfl rfl rfl rfl rfl rfl rfl ?_
          intro b1302 l1303 cs1306 l1304 hcs_ hC1307 hun1305
          obtain ⟨a1299, c1300, rfl, h1301⟩ := hcs_
          subst hC1307
          have hq1308 := KM.le.refl K1118
          refine s_ldm 1 0 hS rfl rfl rfl rfl rfl ?_
          iterate 3 refine s_v rfl rfl rfl ?_
          have hq := Option.some.inj hf
          subst hq
          refine r_join hJ _ ⟨K1118, [(b1302, Cl (l1303 ++ (([(.slice a1299 x1297.length c1300)] : List Value) ++ l1304)) 64)], C1130, C1261, rfl, hle, h1119, h1124, h1125, h1126, h1127, h1262, h1137, (hS.sel [1, 2, 3, 4, 5, 0, 6] rfl)⟩ ⟨rfl, rfl, rfl, rfl, rfl, rfl, rfl, rfl, rfl, rfl, rfl, rfl, trivial⟩
        rintro _ w ⟨K1275, C1279, C1287, C1292, rfl, hle, h1276, h1281, h1282, h1283, h1284, h1289, h1294, hS⟩
        refine s_nil (qn ?_)
        refine s_if rfl (fun hc => ?_) (fun hc => ?_)
        · replace hf := bif_t hc hf
          refine s_reg ?_
          iterate 3 refine s_v rfl rfl rfl ?_
          obtain ⟨x1309, hx1310, hf⟩ := Option.bind_eq_some_iff.1 hf
          refine s_ixo 0 hS rfl h1276 hx1310 rfl rfl rfl rfl rfl rfl rfl ?_
          intro b1314 l1315 cs1318 l1316 hcs_ hC1319 hun1317
          obtain ⟨a1311, c1312, rfl, h1313⟩ := hcs_
          subst hC1319
          have hq1320 := KM.le.refl K1275
          refine s_ldm 0 0 hS rfl rfl rfl rfl rfl ?_
          obtain ⟨hm1321, hf⟩ := guardB_some hf
          refine s_appk (e := 77) 3 hS rfl h1284 h1313 rfl rfl rfl rfl rfl rfl rfl (roomy_le hm1321) rfl rfl rfl ?_
          intro a1322 c1323 w C1324 h1325 hS
          replace hS : Sat w _ (flat [_, _, _, _, _, _, _]) := hS
          refine s_v rfl rfl rfl ?_
          refine s_nil (qbn (qn ?_))
          have hq := Option.some.inj hf
          subst hq
          refine s_join hJ _ ⟨K1275, [(b1314, Cl (l1315 ++ (([(.slice a1311 x1309.length c1312)] : List Value) ++ l1316)) 64)], a1322, c1323, C1324, a1259, c1260, C1292, rfl, hle, h1276, h1281, h1282, h1283, h1325, h1289, h1294, (hS.sel [0, 1, 2, 3, 4, 6] rfl)⟩ ⟨rfl, rfl, rfl, rfl, rfl, rfl, rfl, rfl, rfl, trivial⟩
        replace hf := bif_f hc hf
        refine s_reg ?_
        refine s_v rfl rfl rfl ?_
        refine s_ld (v := (.agg #[(.int .i64 x1249.Op), (.int .i32 x1249.N), (.int .i64 x1249.K), (.string x1249.S), (.string x1249.Class), (.string x1249.Name), (.string x1249.Desc)])) 5 hS rfl rfl rfl rfl rfl ?_
        refine s_bwc (cs := [(.int .i64 x1249.Op), (.int .i32 x1249.N), (.int .i64 x1249.K), (.string x1249.S), (.string x1249.Class), (.string x1249.Name), (.string x1249.Desc)]) hS rfl rfl rfl rfl rfl rfl rfl rfl rfl rfl ?_
        intro b1326 w hS
        obtain ⟨hm1328, hf⟩ := guardB_some hf
        refine s_appv (e := 77) (ys := ([x1249] : List api_Instr)) 4 0 hS rfl h1284 rfl ⟨[(.int .i64 x1249.Op), (.int .i32 x1249.N), (.int .i64 x1249.K), (.string x1249.S), (.string x1249.Class), (.string x1249.Name), (.string x1249.Desc)], _, rfl, rfl, rfl⟩ rfl rfl rfl rfl rfl rfl rfl rfl (roomy_le hm1328) rfl rfl rfl ?_
        intro a1329 c1330 w C1331 h1332 hS
        replace hS : Sat w _ (flat [_, _, _, _, _, _, _, _]) := hS
        refine s_v rfl rfl rfl ?_
        refine s_nil (qbn (qn ?_))
        have hq := Option.some.inj hf
        subst hq
        refine s_join hJ _ ⟨K1275, C1279, a1329, c1330, C1331, a1259, c1260, C1292, rfl, hle, h1276, h1281, h1282, h1283, h1332, h1289, h1294, (hS.sel [1, 2, 3, 4, 5, 7] rfl)⟩ ⟨rfl, rfl, rfl, rfl, rfl, rfl, rfl, rfl, rfl, trivial⟩
      rintro _ w ⟨K1227, C1231, a1237, c1238, C1239, a1242, c1243, C1244, rfl, hle, h1228, h1233, h1234, h1235, h1236, h1241, h1246, hS⟩
      refine s_reg ?_
      iterate 2 refine s_v rfl rfl rfl ?_
      refine s_nil (qn ?_)
      refine s_join hY _ ⟨s1247, (v1139 ++ ([(v1138.length : Int)] : List Int)), w64 (v1140 + 1), K1227, C1231, a1237, c1238, C1239, a1242, c1243, C1244, hf, rfl, hle, h1228, h1233, h1234, h1235, h1236, h1241, h1246, hS⟩ ⟨rfl, rfl, rfl, rfl, rfl, rfl, rfl, rfl, rfl, trivial⟩
    replace hf := bif_f hc hf
    refine s_exit (qxt (qxt (qxb (qn ?_))))
    have hq := Option.some.inj hf
    subst hq
    refine s_join hJ _ ⟨K1118, C1122, a1128, c1129, C1130, a1133, c1134, C1135, rfl, hle, h1119, h1124, h1125, h1126, h1127, h1132, hS⟩ ⟨rfl, rfl, rfl, rfl, rfl, rfl, trivial⟩
  rintro _ w ⟨K666, C670, a676, c677, C678, a681, c682, C683, rfl, hle, h667, h672, h673, h674, h675, h680, hS⟩
  refine s_seq (s_reg ?_)
  iterate 3 refine s_v rfl rfl rfl ?_
  refine s_bwc (cs := [(.int .i64 (s685.1.length : Int))]) hS rfl rfl rfl rfl rfl rfl rfl rfl rfl rfl ?_
  intro b1333 w hS
  obtain ⟨hm1335, hf⟩ := guardB_some hf
  refine s_appv (e := 3) (ys := ([(s685.1.length : Int)] : List Int)) 5 0 hS rfl h680 rfl ⟨[(.int .i64 (s685.1.length : Int))], _, rfl, rfl, rfl⟩ rfl rfl rfl rfl rfl rfl rfl rfl (roomy_le hm1335) rfl rfl rfl ?_
  intro a1336 c1337 w C1338 h1339 hS
  replace hS : Sat w _ (flat [_, _, _, _, _, _, _]) := hS
  refine s_v rfl rfl rfl ?_
  refine s_nil (qn ?_)
  replace hS : Sat w K666 (flat [_, _, _, _, _, _]) := (hS.sel [1, 2, 3, 4, 5, 6] rfl)
  obtain ⟨res1761, hst1762, hm1763⟩ := LR.then_some hf
  refine s_cut (fun τ w => ∃ (s1760 : (List api_Instr)) (K1741 : KM) (C1745 : Chunks) (C1753 : Chunks) (C1758 : Chunks), res1761 = .brk s1760 ∧ τ = [(1, (.slice a12 p11.length c13)), (2, (.pointer (some ⟨b18, 0, none⟩))), (4, (.pointer (some ⟨b20, 0, none⟩))), (6, (.int .i64 (p1.Code.length : Int))), (7, (.slice a676 s1760.length c677)), (8, (.slice a1336 ((s685.2 ++ ([(s685.1.length : Int)] : List Int)).length) c1337))] ∧ KM.le K K1741 ∧ OwnS 64 K1741 (.slice a12 p11.length c13) p11 C1745 ∧ SlK 63 K1741 a2 c3 p1.Params ∧ SlK 77 K1741 a5 c6 p1.Code ∧ SlK 92 K1741 a8 c9 p1.Handlers ∧ OwnS 77 K1741 (.slice a676 s1760.length c677) s1760 C1753 ∧ OwnS 3 K1741 (.slice a1336 ((s685.2 ++ ([(s685.1.length : Int)] : List Int)).length) c1337) (s685.2 ++ ([(s685.1.length : Int)] : List Int)) C1758 ∧ Sat w K1741 (flat [C1745, [(b18, Cl [(.string p1.Name), (.slice a2 p1.Params.length c3), (.int .i64 p1.Ret.Kind), (.string p1.Ret.Class), (.bool p1.Static), (.bool p1.Abstract), (.int .i64 p1.Locals), (.slice a5 p1.Code.length c6), (.slice a8 p1.Handlers.length c9)] 67)], [(b20, Cl [(.string ByteArray.empty), (.slice none 0 0), (.int .i64 0), (.string ByteArray.empty), (.bool false), (.bool false), (.int .i64 0), (.slice none 0 0), (.slice none 0 0)] 67)], C1753, C1758, L])) (fun J hJ => ?_) ?_
  · replace hf := hst1762
    refine s_seq (s_reg ?_)
    iterate 3 refine s_v rfl rfl rfl ?_
    refine s_nil (qn (s_block ?_))
    refine s_loopp (fun n τ w => ∃ (v2056 : (List api_Instr)) (v2057 : Int) (K2037 : KM) (C2041 : Chunks) (C2049 : Chunks) (C2054 : Chunks), rewrite_Method.l1 fu p1 s685 n v2056 v2057 = some res1761 ∧ τ = [(1, (.slice a12 p11.length c13)), (2, (.pointer (some ⟨b18, 0, none⟩))), (4, (.pointer (some ⟨b20, 0, none⟩))), (6, (.int .i64 (p1.Code.length : Int))), (7, (.slice a676 v2056.length c677)), (8, (.slice a1336 ((s685.2 ++ ([(s685.1.length : Int)] : List Int)).length) c1337)), (59, (.slice a676 v2056.length c677)), (60, (.int .i64 (s685.1.length : Int))), (61, (.int .i64 v2057))] ∧ KM.le K K2037 ∧ OwnS 64 K2037 (.slice a12 p11.length c13) p11 C2041 ∧ SlK 63 K2037 a2 c3 p1.Params ∧ SlK 77 K2037 a5 c6 p1.Code ∧ SlK 92 K2037 a8 c9 p1.Handlers ∧ OwnS 77 K2037 (.slice a676 v2056.length c677) v2056 C2049 ∧ OwnS 3 K2037 (.slice a1336 ((s685.2 ++ ([(s685.1.length : Int)] : List Int)).length) c1337) (s685.2 ++ ([(s685.1.length : Int)] : List Int)) C2054 ∧ Sat w K2037 (flat [C2041, [(b18, Cl [(.string p1.Name), (.slice a2 p1.Params.length c3), (.int .i64 p1.Ret.Kind), (.string p1.Ret.Class), (.bool p1.Static), (.bool p1.Abstract), (.int .i64 p1.Locals), (.slice a5 p1.Code.length c6), (.slice a8 p1.Handlers.length c9)] 67)], [(b20, Cl [(.string ByteArray.empty), (.slice none 0 0), (.int .i64 0), (.string ByteArray.empty), (.bool false), (.bool false), (.int .i64 0), (.slice none 0 0), (.slice none 0 0)] 67)], C2049, C2054, L])) _ ⟨s685.1, 0, K666, C670, C678, C1338, hf, rfl, hle, h667, h672, h673, h674, h675, h1339, hS⟩ ⟨rfl, rfl, rfl, rfl, rfl, rfl, rfl, rfl, rfl, trivial⟩ ?_ ?_
    · rintro _ _ ⟨_, _, _, _, _, _, hf, _⟩
      exact absurd hf (by simp [rewrite_Method.l1])
    rintro n _ w Y hY ⟨v2056, v2057, K2037, C2041, C2049, C2054, hf, rfl, hle, h2038, h2043, h2044, h2045, h2046, h2051, hS⟩
    rw [rewrite_Method.l1] at hf
    refine s_seq (s_reg ?_)
    refine s_v rfl rfl rfl ?_
    refine s_nil (qn (s_seq ?_))
    refine s_if rfl (fun hc => ?_) (fun hc => ?_)
    · replace hf := bif_t hc hf
      refine s_skip (qn ?_)
      obtain ⟨res2120, hst2121, hm2122⟩ := LR.then_some hf
      refine s_cut (fun τ w => ∃ (s2119 : (List api_Instr)) (K2100 : KM) (C2104 : Chunks) (C2112 : Chunks) (C2117 : Chunks), res2120 = .brk s2119 ∧ τ = [(1, (.slice a12 p11.length c13)), (2, (.pointer (some ⟨b18, 0, none⟩))), (4, (.pointer (some ⟨b20, 0, none⟩))), (6, (.int .i64 (p1.Code.length : Int))), (7, (.slice a676 s2119.length c677)), (8, (.slice a1336 ((s685.2 ++ ([(s685.1.length : Int)] : List Int)).length) c1337)), (59, (.slice a676 s2119.length c677)), (60, (.int .i64 (s685.1.length : Int))), (61, (.int .i64 v2057))] ∧ KM.le K K2100 ∧ OwnS 64 K2100 (.slice a12 p11.length c13) p11 C2104 ∧ SlK 63 K2100 a2 c3 p1.Params ∧ SlK 77 K2100 a5 c6 p1.Code ∧ SlK 92 K2100 a8 c9 p1.Handlers ∧ OwnS 77 K2100 (.slice a676 s2119.length c677) s2119 C2112 ∧ OwnS 3 K2100 (.slice a1336 ((s685.2 ++ ([(s685.1.length : Int)] : List Int)).length) c1337) (s685.2 ++ ([(s685.1.length : Int)] : List Int)) C2117 ∧ Sat w K2100 (flat [C2104, [(b18, Cl [(.string p1.Name), (.slice a2 p1.Params.length c3), (.int .i64 p1.Ret.Kind), (.string p1.Ret.Class), (.bool p1.Static), (.bool p1.Abstract), (.int .i64 p1.Locals), (.slice a5 p1.Code.length c6), (.slice a8 p1.Handlers.length c9)] 67)], [(b20, Cl [(.string ByteArray.empty), (.slice none 0 0), (.int .i64 0), (.string ByteArray.empty), (.bool false), (.bool false), (.int .i64 0), (.slice none 0 0), (.slice none 0 0)] 67)], C2112, C2117, L])) (fun J hJ => ?_) ?_
      · replace hf := hst2121
        refine s_block (s_seq (s_reg ?_))
        refine s_v rfl rfl rfl ?_
        obtain ⟨x2123, hx2124, hf⟩ := Option.bind_eq_some_iff.1 hf
        refine s_ixo 3 hS rfl h2046 hx2124 rfl rfl rfl rfl rfl rfl rfl ?_
        intro b2125 l2126 cs2129 l2127 hcs_ hC2130 hun2128
        obtain rfl := hcs_
        subst hC2130
        have hq2131 := KM.le.refl K2037
        refine s_ldm (v := (.agg #[(.int .i64 x2123.Op), (.int .i32 x2123.N), (.int .i64 x2123.K), (.string x2123.S), (.string x2123.Class), (.string x2123.Name), (.string x2123.Desc)])) 3 0 hS rfl rfl rfl rfl rfl ?_
        refine s_al hS rfl rfl rfl ?_
        intro b2132 w hS
        replace hS : Sat w K2037 (flat ([(b2132, Cl [(.int .i64 0), (.int .i32 0), (.int .i64 0), (.string ByteArray.empty), (.string ByteArray.empty), (.string ByteArray.empty), (.string ByteArray.empty)] 77)] :: _)) := hS
        refine s_v rfl rfl rfl ?_
        refine s_st (cs' := [(.int .i64 x2123.Op), (.int .i32 x2123.N), (.int .i64 x2123.K), (.string x2123.S), (.string x2123.Class), (.string x2123.Name), (.string x2123.Desc)]) 0 hS rfl rfl rfl rfl rfl ?_
        intro w hS
        replace hS : Sat w _ (flat [_, _, _, _, _, _, _]) := hS
        refine s_nil (qn (s_seq (s_seq (s_reg ?_))))
        refine s_v rfl rfl rfl ?_
        refine s_ld 0 hS rfl rfl rfl rfl rfl ?_
        obtain ⟨x2134, hx2135, hf⟩ := Option.bind_eq_some_iff.1 hf
        refine s_call isf54 hS.nilG (op_Jumps_spec hx2135) rfl rfl rfl ?_
        rintro _ K2136 C2138 w hk2137 rfl hS
        replace hS := hS.drop1
        refine s_v rfl rfl rfl ?_
        refine s_nil (qn ?_)
        refine s_if rfl (fun hc => ?_) (fun hc => ?_)
        · replace hf := bif_t hc hf
          refine s_exit (qxt (qxb (qn ?_)))
          have hq := Option.some.inj hf
          subst hq
          replace h2038 := h2038.mono hk2137
          replace h2043 := h2043.mono hk2137
          replace h2044 := h2044.mono hk2137
          replace h2045 := h2045.mono hk2137
          replace h2046 := h2046.mono hk2137
          replace h2051 := h2051.mono hk2137
          replace hle := hle.trans hk2137
          refine s_join hJ _ ⟨v2056, K2136, C2041, [(b2125, Cl (l2126 ++ (([(.int .i64 x2123.Op), (.int .i32 x2123.N), (.int .i64 x2123.K), (.string x2123.S), (.string x2123.Class), (.string x2123.Name), (.string x2123.Desc)] : List Value) ++ l2127)) 77)], C2054, rfl, rfl, hle, h2038, h2043, h2044, h2045, h2046, h2051, (hS.sel [1, 2, 3, 4, 5, 6] rfl)⟩ ⟨rfl, rfl, rfl, rfl, rfl, rfl, rfl, rfl, rfl, trivial⟩
        replace hf := bif_f hc hf
        refine s_skip (qn (s_seq (s_seq (s_reg ?_))))
        refine s_v rfl rfl rfl ?_
        refine s_ld 0 hS rfl rfl rfl rfl rfl ?_
        iterate 2 refine s_v rfl rfl rfl ?_
        obtain ⟨x2139, hx2140, hf⟩ := Option.bind_eq_some_iff.1 hf
        refine s_call isf55 hS.nilG (rewrite_within_spec hx2140) rfl rfl rfl ?_
        rintro _ K2141 C2143 w hk2142 rfl hS
        replace hS := hS.drop1
        refine s_v rfl rfl rfl ?_
        refine s_nil (qn ?_)
        refine s_if rfl (fun hc => ?_) (fun hc => ?_)
        · replace hf := bif_t hc hf
          refine s_seq (s_reg ?_)
          refine s_v (v := (.agg #[(.string ByteArray.empty), (.slice none 0 0), (.int .i64 0), (.string ByteArray.empty), (.bool false), (.bool false), (.int .i64 0), (.slice none 0 0), (.slice none 0 0)])) rfl rfl rfl ?_
          refine s_st (cs' := [(.string ByteArray.empty), (.slice none 0 0), (.int .i64 0), (.string ByteArray.empty), (.bool false), (.bool false), (.int .i64 0), (.slice none 0 0), (.slice none 0 0)]) 3 hS rfl rfl rfl rfl rfl ?_
          intro w hS
          replace hS : Sat w _ (flat [_, _, _, _, _, _, _]) := hS
          refine s_v rfl rfl rfl ?_
          refine s_nil (qn ?_)
          replace hS : Sat w K2141 (flat [_, _, _]) := (hS.sel [1, 3, 6] rfl)
          refine s_rets (qrt (qrb (qrt ?_)))
          replace hf := LR.esc_some hf hm2122
          refine qrt (qrb (qrt ?_))
          replace hf := LR.esc_some hf hm1763
          replace hS := hS.nilG
          replace hS := hS.nilG
          have hq := Option.some.inj hf
          subst hq
          refine s_ret2 rfl (rv_c (v := (.agg #[(.string ByteArray.empty), (.slice none 0 0), (.int .i64 0), (.string ByteArray.empty), (.bool false), (.bool false), (.int .i64 0), (.slice none 0 0), (.slice none 0 0)])) 3 hS rfl rfl rfl) (rv_t rfl) ?_
          replace h2038 := h2038.mono (hk2137.trans hk2142)
          replace hle := hle.trans (hk2137.trans hk2142)
          exact ⟨K2141, _, hle, ⟨none, 0, none, 0, none, 0, [], [], C2041, rfl, SlK.nil, OwnS.nil, OwnS.nil, h2038, rfl⟩, Sat.shut [[], [], C2041] (hS.sel [1, 0, 2, 4] rfl)⟩
        replace hf := bif_f hc hf
        refine s_skip (qn (s_reg ?_))
        iterate 4 refine s_v rfl rfl rfl ?_
        refine s_ld 0 hS rfl rfl rfl rfl rfl ?_
        obtain ⟨x2146, hx2147, hf⟩ := Option.bind_eq_some_iff.1 hf
        replace h2051 := h2051.mono (hk2137.trans hk2142)
        refine s_ixo 5 hS rfl h2051 hx2147 rfl rfl rfl rfl rfl rfl rfl ?_
        intro b2148 l2149 cs2152 l2150 hcs_ hC2153 hun2151
        obtain rfl := hcs_
        subst hC2153
        have hq2154 := KM.le.refl K2141
        refine s_ldm 5 0 hS rfl rfl rfl rfl rfl ?_
        replace h2046 := h2046.mono (hk2137.trans hk2142)
        generalize hCg_ : ([(b2125, Cl (l2126 ++ (([(.int .i64 x2123.Op), (.int .i32 x2123.N), (.int .i64 x2123.K), (.string x2123.S), (.string x2123.Class), (.string x2123.Name), (.string x2123.Desc)] : List Value) ++ l2127)) 77)] : Chunks) = C2155 at hS h2046
        clear hCg_
        obtain ⟨x2156, hx2157, hf⟩ := Option.bind_eq_some_iff.1 hf
        refine s_ixo 4 hS rfl h2046 hx2157 rfl rfl rfl rfl rfl rfl rfl ?_
        intro b2158 l2159 cs2162 l2160 hcs_ hC2163 hun2161
        obtain rfl := hcs_
        subst hC2163
        have hq2164 := KM.le.refl K2141
        refine s_v rfl rfl rfl ?_
        refine s_stm (cs' := [(.int .i64 x2156.Op), (.int .i32 x2156.N), (.int .i64 x2146), (.string x2156.S), (.string x2156.Class), (.string x2156.Name), (.string x2156.Desc)]) 4 2 hS rfl rfl rfl rfl rfl ?_
        intro w hS
        replace hS : Sat w _ (flat [_, _, _, _, _, _, _]) := hS
        have h2165 := hun2161 K2141 _ _ hq2164 (show GoData.cells 77 _ (api_Instr.mk x2156.Op x2156.N x2146 x2156.S x2156.Class x2156.Name x2156.Desc) _ from rfl)
        have hl2166 := OwnS.len h2165
        refine s_nil (qbn (qn ?_))
        have hq := Option.some.inj hf
        subst hq
        replace h2038 := h2038.mono (hk2137.trans hk2142)
        replace h2043 := h2043.mono (hk2137.trans hk2142)
        replace h2044 := h2044.mono (hk2137.trans hk2142)
        replace h2045 := h2045.mono (hk2137.trans hk2142)
        replace hle := hle.trans (hk2137.trans hk2142)
        refine s_join hJ _ ⟨(v2056.set (v2057 : Int).toNat (api_Instr.mk x2156.Op x2156.N x2146 x2156.S x2156.Class x2156.Name x2156.Desc)), K2141, C2041, [(b2158, Cl (l2159 ++ (([(.int .i64 x2156.Op), (.int .i32 x2156.N), (.int .i64 x2146), (.string x2156.S), (.string x2156.Class), (.string x2156.Name), (.string x2156.Desc)] : List Value) ++ l2160)) 77)], [(b2148, Cl (l2149 ++ (([(.int .i64 x2146)] : List Value) ++ l2150)) 3)], rfl, rfl, hle, h2038, h2043, h2044, h2045, (OwnS.norm h2165), h2051, (by (try rw [hl2166]); (try rw [hl2166]); exact (hS.sel [1, 2, 3, 4, 5, 6] rfl))⟩ ⟨rfl, rfl, rfl, rfl, (by rw [hl2166]; rfl), rfl, (by rw [hl2166]; rfl), rfl, rfl, trivial⟩
      rintro _ w ⟨s2119, K2100, C2104, C2112, C2117, rfl, rfl, hle, h2101, h2106, h2107, h2108, h2109, h2114, hS⟩
      replace hf := LR.elim_brk hm2122
      refine s_reg ?_
      iterate 2 refine s_v rfl rfl rfl ?_
      refine s_nil (qn ?_)
      refine s_join hY _ ⟨s2119, w64 (v2057 + 1), K2100, C2104, C2112, C2117, hf, rfl, hle, h2101, h2106, h2107, h2108, h2109, h2114, hS⟩ ⟨rfl, rfl, rfl, rfl, rfl, rfl, rfl, rfl, rfl, trivial⟩
    replace hf := bif_f hc hf
    refine s_exit (qxt (qxt (qxb (qn ?_))))
    have hq := Option.some.inj hf
    subst hq
    refine s_join hJ _ ⟨v2056, K2037, C2041, C2049, C2054, rfl, rfl, hle, h2038, h2043, h2044, h2045, h2046, h2051, hS⟩ ⟨rfl, rfl, rfl, rfl, rfl, rfl, trivial⟩
  rintro _ w ⟨s1760, K1741, C1745, C1753, C1758, rfl, rfl, hle, h1742, h1747, h1748, h1749, h1750, h1755, hS⟩
  replace hf := LR.elim_brk hm1763
  refine s_seq (s_reg ?_)
  refine s_v rfl rfl rfl ?_
  refine s_ld 1 hS rfl rfl rfl rfl rfl ?_
  obtain ⟨x2167, hx2168, hf⟩ := Option.bind_eq_some_iff.1 hf
  refine s_call isf56 hS.nilG (slices_Clone_api_Handler_api_Handler_spec hx2168 h1749) rfl rfl rfl ?_
  rintro _ K2169 C2171 w hk2170 ⟨a2172, c2173, rfl, h2174⟩ hS
  refine s_v rfl rfl rfl ?_
  refine s_st (cs' := [(.string p1.Name), (.slice a2 p1.Params.length c3), (.int .i64 p1.Ret.Kind), (.string p1.Ret.Class), (.bool p1.Static), (.bool p1.Abstract), (.int .i64 p1.Locals), (.slice a5 p1.Code.length c6), (.slice a2172 x2167.length c2173)]) 2 hS rfl rfl rfl rfl rfl ?_
  intro w hS
  replace hS : Sat w _ (flat [_, _, _, _, _, _, _]) := hS
  refine s_nil (qn ?_)
  obtain ⟨res2933, hst2934, hm2935⟩ := LR.then_some hf
  refine s_cut (fun τ w => ∃ (s2932 : (List api_Handler)) (K2914 : KM) (C2918 : Chunks) (C2925 : Chunks) (C2930 : Chunks), res2933 = .brk s2932 ∧ τ = [(1, (.slice a12 p11.length c13)), (2, (.pointer (some ⟨b18, 0, none⟩))), (4, (.pointer (some ⟨b20, 0, none⟩))), (7, (.slice a676 s1760.length c677))] ∧ KM.le K K2914 ∧ OwnS 64 K2914 (.slice a12 p11.length c13) p11 C2918 ∧ SlK 63 K2914 a2 c3 p1.Params ∧ SlK 77 K2914 a5 c6 p1.Code ∧ OwnS 92 K2914 (.slice a2172 s2932.length c2173) s2932 C2925 ∧ OwnS 77 K2914 (.slice a676 s1760.length c677) s1760 C2930 ∧ Sat w K2914 (flat [C2918, [(b18, Cl [(.string p1.Name), (.slice a2 p1.Params.length c3), (.int .i64 p1.Ret.Kind), (.string p1.Ret.Class), (.bool p1.Static), (.bool p1.Abstract), (.int .i64 p1.Locals), (.slice a5 p1.Code.length c6), (.slice a2172 s2932.length c2173)] 67)], C2925, [(b20, Cl [(.string ByteArray.empty), (.slice none 0 0), (.int .i64 0), (.string ByteArray.empty), (.bool false), (.bool false), (.int .i64 0), (.slice none 0 0), (.slice none 0 0)] 67)], C2930, L])) (fun J hJ => ?_) ?_
  · replace hf := hst2934
    refine s_seq (s_reg ?_)
    refine s_v rfl rfl rfl ?_
    refine s_ld 2 hS rfl rfl rfl rfl rfl ?_
    iterate 2 refine s_v rfl rfl rfl ?_
    refine s_nil (qn (s_block ?_))
    replace h1742 := h1742.mono hk2170
    replace h1747 := h1747.mono hk2170
    replace h1748 := h1748.mono hk2170
    replace h1750 := h1750.mono hk2170
    replace h1755 := h1755.mono hk2170
    replace hle := hle.trans hk2170
    refine s_loopp (fun n τ w => ∃ (v3458 : (List api_Handler)) (v3459 : Int) (K3435 : KM) (C3439 : Chunks) (C3446 : Chunks) (C3451 : Chunks) (C3456 : Chunks), rewrite_Method.l2 fu p1 s685 x2167 n v3458 v3459 = some res2933 ∧ τ = [(1, (.slice a12 p11.length c13)), (2, (.pointer (some ⟨b18, 0, none⟩))), (4, (.pointer (some ⟨b20, 0, none⟩))), (6, (.int .i64 (p1.Code.length : Int))), (7, (.slice a676 s1760.length c677)), (8, (.slice a1336 ((s685.2 ++ ([(s685.1.length : Int)] : List Int)).length) c1337)), (92, (.slice a2172 v3458.length c2173)), (93, (.int .i64 (x2167.length : Int))), (94, (.int .i64 v3459))] ∧ KM.le K K3435 ∧ OwnS 64 K3435 (.slice a12 p11.length c13) p11 C3439 ∧ SlK 63 K3435 a2 c3 p1.Params ∧ SlK 77 K3435 a5 c6 p1.Code ∧ OwnS 92 K3435 (.slice a2172 v3458.length c2173) v3458 C3446 ∧ OwnS 77 K3435 (.slice a676 s1760.length c677) s1760 C3451 ∧ OwnS 3 K3435 (.slice a1336 ((s685.2 ++ ([(s685.1.length : Int)] : List Int)).length) c1337) (s685.2 ++ ([(s685.1.length : Int)] : List Int)) C3456 ∧ Sat w K3435 (flat [C3439, [(b18, Cl [(.string p1.Name), (.slice a2 p1.Params.length c3), (.int .i64 p1.Ret.Kind), (.string p1.Ret.Class), (.bool p1.Static), (.bool p1.Abstract), (.int .i64 p1.Locals), (.slice a5 p1.Code.length c6), (.slice a2172 v3458.length c2173)] 67)], C3446, [(b20, Cl [(.string ByteArray.empty), (.slice none 0 0), (.int .i64 0), (.string ByteArray.empty), (.bool false), (.bool false), (.int .i64 0), (.slice none 0 0), (.slice none 0 0)] 67)], C3451, C3456, L])) _ ⟨x2167, 0, K2169, C1745, C2171, C1753, C1758, hf, rfl, hle, h1742, h1747, h1748, h2174, h1750, h1755, (hS.sel [1, 2, 0, 3, 4, 5, 6] rfl)⟩ ⟨rfl, rfl, rfl, rfl, rfl, rfl, rfl, rfl, rfl, trivial⟩ ?_ ?_
    · rintro _ _ ⟨_, _, _, _, _, _, _, hf, _⟩
      exact absurd hf (by simp [rewrite_Method.l2])
    rintro n _ w Y hY ⟨v3458, v3459, K3435, C3439, C3446, C3451, C3456, hf, rfl, hle, h3436, h3441, h3442, h3443, h3448, h3453, hS⟩
    rw [rewrite_Method.l2] at hf
    refine s_seq (s_reg ?_)
    refine s_v rfl rfl rfl ?_
    refine s_nil (qn (s_seq ?_))
    refine s_if rfl (fun hc => ?_) (fun hc => ?_)
    · replace hf := bif_t hc hf
      refine s_skip (qn (s_seq (s_block (s_seq (s_reg ?_)))))
      refine s_v rfl rfl rfl ?_
      obtain ⟨x3460, hx3461, hf⟩ := Option.bind_eq_some_iff.1 hf
      refine s_ixo 2 hS rfl h3443 hx3461 rfl rfl rfl rfl rfl rfl rfl ?_
      intro b3462 l3463 cs3466 l3464 hcs_ hC3467 hun3465
      obtain rfl := hcs_
      subst hC3467
      have hq3468 := KM.le.refl K3435
      refine s_ldm (v := (.agg #[(.int .i64 x3460.From), (.int .i64 x3460.To), (.int .i64 x3460.At), (.string x3460.Catch)])) 2 0 hS rfl rfl rfl rfl rfl ?_
      refine s_al hS rfl rfl rfl ?_
      intro b3469 w hS
      replace hS : Sat w K3435 (flat ([(b3469, Cl [(.int .i64 0), (.int .i64 0), (.int .i64 0), (.string ByteArray.empty)] 92)] :: _)) := hS
      refine s_v rfl rfl rfl ?_
      refine s_st (cs' := [(.int .i64 x3460.From), (.int .i64 x3460.To), (.int .i64 x3460.At), (.string x3460.Catch)]) 0 hS rfl rfl rfl rfl rfl ?_
      intro w hS
      replace hS : Sat w _ (flat [_, _, _, _, _, _, _, _]) := hS
      refine s_nil (qn (s_seq (s_seq (s_reg ?_))))
      refine s_v rfl rfl rfl ?_
      refine s_ld 0 hS rfl rfl rfl rfl rfl ?_
      iterate 2 refine s_v rfl rfl rfl ?_
      obtain ⟨x3471, hx3472, hf⟩ := Option.bind_eq_some_iff.1 hf
      refine s_call isf55 hS.nilG (rewrite_within_spec hx3472) rfl rfl rfl ?_
      rintro _ K3473 C3475 w hk3474 rfl hS
      replace hS := hS.drop1
      iterate 2 refine s_v rfl rfl rfl ?_
      obtain ⟨s3504, hst3505, hf⟩ := Option.bind_eq_some_iff.1 hf
      refine r_cut [_, _, _, _, _, _] (fun τ w => ∃ (K3481 : KM) (C3485 : Chunks) (C3492 : Chunks) (C3497 : Chunks) (C3502 : Chunks), τ = [(1, (.slice a12 p11.length c13)), (2, (.pointer (some ⟨b18, 0, none⟩))), (4, (.pointer (some ⟨b20, 0, none⟩))), (6, (.int .i64 (p1.Code.length : Int))), (7, (.slice a676 s1760.length c677)), (8, (.slice a1336 ((s685.2 ++ ([(s685.1.length : Int)] : List Int)).length) c1337)), (13, (.int .i64 v3459)), (14, (.pointer (some ⟨b3469, 0, none⟩))), (92, (.slice a2172 v3458.length c2173)), (93, (.int .i64 (x2167.length : Int))), (94, (.int .i64 v3459)), (111, (.bool s3504))] ∧ KM.le K K3481 ∧ OwnS 64 K3481 (.slice a12 p11.length c13) p11 C3485 ∧ SlK 63 K3481 a2 c3 p1.Params ∧ SlK 77 K3481 a5 c6 p1.Code ∧ OwnS 92 K3481 (.slice a2172 v3458.length c2173) v3458 C3492 ∧ OwnS 77 K3481 (.slice a676 s1760.length c677) s1760 C3497 ∧ OwnS 3 K3481 (.slice a1336 ((s685.2 ++ ([(s685.1.length : Int)] : List Int)).length) c1337) (s685.2 ++ ([(s685.1.length : Int)] : List Int)) C3502 ∧ Sat w K3481 (flat [C3485, [(b18, Cl [(.string p1.Name), (.slice a2 p1.Params.length c3), (.int .i64 p1.Ret.Kind), (.string p1.Ret.Class), (.bool p1.Static), (.bool p1.Abstract), (.int .i64 p1.Locals), (.slice a5 p1.Code.length c6), (.slice a2172 v3458.length c2173)] 67)], C3492, [(b20, Cl [(.string ByteArray.empty), (.slice none 0 0), (.int .i64 0), (.string ByteArray.empty), (.bool false), (.bool false), (.int .i64 0), (.slice none 0 0), (.slice none 0 0)] 67)], C3497, C3502, [(b3469, Cl [(.int .i64 x3460.From), (.int .i64 x3460.To), (.int .i64 x3460.At), (.string x3460.Catch)] 92)], L])) rfl (fun J hJ => ?_) ?_
      · replace hf := hst3505
        cases hc : (!x3471)
        · replace hf := bif_f hc hf
          refine s_v rfl rfl rfl ?_
          refine s_ld 0 hS rfl rfl rfl rfl rfl ?_
          refine s_v rfl rfl rfl ?_
          obtain ⟨x3506, hx3507, hf⟩ := Option.bind_eq_some_iff.1 hf
          refine s_call isf55 hS.nilG (rewrite_within_spec hx3507) rfl rfl rfl ?_
          rintro _ K3508 C3510 w hk3509 rfl hS
          replace hS := hS.drop1
          iterate 2 refine s_v rfl rfl rfl ?_
          have hq := Option.some.inj hf
          subst hq
          replace h3436 := h3436.mono (hk3474.trans hk3509)
          replace h3441 := h3441.mono (hk3474.trans hk3509)
          replace h3442 := h3442.mono (hk3474.trans hk3509)
          replace h3443 := h3443.mono (hk3474.trans hk3509)
          replace h3448 := h3448.mono (hk3474.trans hk3509)
          replace h3453 := h3453.mono (hk3474.trans hk3509)
          replace hle := hle.trans (hk3474.trans hk3509)
          refine r_join hJ _ ⟨K3508, C3439, [(b3462, Cl (l3463 ++ (([(.int .i64 x3460.From), (.int .i64 x3460.To), (.int .i64 x3460.At), (.string x3460.Catch)] : List Value) ++ l3464)) 92)], C3451, C3456, rfl, hle, h3436, h3441, h3442, h3443, h3448, h3453, (hS.sel [1, 2, 3, 4, 5, 6, 0, 7] rfl)⟩ ⟨rfl, rfl, rfl, rfl, rfl, rfl, rfl, rfl, rfl, rfl, rfl, rfl, trivial⟩
        replace hf := bif_t hc hf
        refine s_no rfl rfl ?_
        refine s_no rfl rfl ?_
        refine s_no rfl rfl ?_
        refine s_no rfl rfl ?_
        refine s_no rfl rfl ?_
        refine s_v rfl rfl rfl ?_
        have hq := Option.some.inj hf
        subst hq
        replace h3436 := h3436.mono hk3474
        replace h3441 := h3441.mono hk3474
        replace h3442 := h3442.mono hk3474
        replace h3443 := h3443.mono hk3474
        replace h3448 := h3448.mono hk3474
        replace h3453 := h3453.mono hk3474
        replace hle := hle.trans hk3474
        refine r_join hJ _ ⟨K3473, C3439, [(b3462, Cl (l3463 ++ (([(.int .i64 x3460.From), (.int .i64 x3460.To), (.int .i64 x3460.At), (.string x3460.Catch)] : List Value) ++ l3464)) 92)], C3451, C3456, rfl, hle, h3436, h3441, h3442, h3443, h3448, h3453, (hS.sel [1, 2, 3, 4, 5, 6, 0, 7] rfl)⟩ ⟨rfl, rfl, rfl, rfl, rfl, rfl, rfl, rfl, rfl, rfl, rfl, rfl, trivial⟩
      rintro _ w ⟨K3481, C3485, C3492, C3497, C3502, rfl, hle, h3482, h3487, h3488, h3489, h3494, h3499, hS⟩
      refine s_v rfl rfl rfl ?_
      obtain ⟨s3539, hst3540, hf⟩ := Option.bind_eq_some_iff.1 hf
      refine r_cut [_, _, _, _, _, _, _] (fun τ w => ∃ (K3516 : KM) (C3520 : Chunks) (C3527 : Chunks) (C3532 : Chunks) (C3537 : Chunks), τ = [(1, (.slice a12 p11.length c13)), (2, (.pointer (some ⟨b18, 0, none⟩))), (4, (.pointer (some ⟨b20, 0, none⟩))), (6, (.int .i64 (p1.Code.length : Int))), (7, (.slice a676 s1760.length c677)), (8, (.slice a1336 ((s685.2 ++ ([(s685.1.length : Int)] : List Int)).length) c1337)), (13, (.int .i64 v3459)), (14, (.pointer (some ⟨b3469, 0, none⟩))), (92, (.slice a2172 v3458.length c2173)), (93, (.int .i64 (x2167.length : Int))), (94, (.int .i64 v3459)), (119, (.bool s3539))] ∧ KM.le K K3516 ∧ OwnS 64 K3516 (.slice a12 p11.length c13) p11 C3520 ∧ SlK 63 K3516 a2 c3 p1.Params ∧ SlK 77 K3516 a5 c6 p1.Code ∧ OwnS 92 K3516 (.slice a2172 v3458.length c2173) v3458 C3527 ∧ OwnS 77 K3516 (.slice a676 s1760.length c677) s1760 C3532 ∧ OwnS 3 K3516 (.slice a1336 ((s685.2 ++ ([(s685.1.length : Int)] : List Int)).length) c1337) (s685.2 ++ ([(s685.1.length : Int)] : List Int)) C3537 ∧ Sat w K3516 (flat [C3520, [(b18, Cl [(.string p1.Name), (.slice a2 p1.Params.length c3), (.int .i64 p1.Ret.Kind), (.string p1.Ret.Class), (.bool p1.Static), (.bool p1.Abstract), (.int .i64 p1.Locals), (.slice a5 p1.Code.length c6), (.slice a2172 v3458.length c2173)] 67)], C3527, [(b20, Cl [(.string ByteArray.empty), (.slice none 0 0), (.int .i64 0), (.string ByteArray.empty), (.bool false), (.bool false), (.int .i64 0), (.slice none 0 0), (.slice none 0 0)] 67)], C3532, C3537, [(b3469, Cl [(.int .i64 x3460.From), (.int .i64 x3460.To), (.int .i64 x3460.At), (.string x3460.Catch)] 92)], L])) rfl (fun J hJ => ?_) ?_
      · replace hf := hst3540
        cases hc : s3504
        · replace hf := bif_f hc hf
          refine s_v rfl rfl rfl ?_
          refine s_ld 6 hS rfl rfl rfl rfl rfl ?_
          iterate 2 refine s_v rfl rfl rfl ?_
          obtain ⟨x3541, hx3542, hf⟩ := Option.bind_eq_some_iff.1 hf
          refine s_call isf55 hS.nilG (rewrite_within_spec hx3542) rfl rfl rfl ?_
          rintro _ K3543 C3545 w hk3544 rfl hS
          replace hS := hS.drop1
          iterate 2 refine s_v rfl rfl rfl ?_
          have hq := Option.some.inj hf
          subst hq
          replace h3482 := h3482.mono hk3544
          replace h3487 := h3487.mono hk3544
          replace h3488 := h3488.mono hk3544
          replace h3489 := h3489.mono hk3544
          replace h3494 := h3494.mono hk3544
          replace h3499 := h3499.mono hk3544
          replace hle := hle.trans hk3544
          refine r_join hJ _ ⟨K3543, C3485, C3492, C3497, C3502, rfl, hle, h3482, h3487, h3488, h3489, h3494, h3499, hS⟩ ⟨rfl, rfl, rfl, rfl, rfl, rfl, rfl, rfl, rfl, rfl, rfl, rfl, trivial⟩
        replace hf := bif_t hc hf
        refine s_no rfl rfl ?_
        refine s_no rfl rfl ?_
        refine s_no rfl rfl ?_
        refine s_no rfl rfl ?_
        refine s_no rfl rfl ?_
        refine s_no rfl rfl ?_
        refine s_v rfl rfl rfl ?_
        have hq := Option.some.inj hf
        subst hq
        refine r_join hJ _ ⟨K3481, C3485, C3492, C3497, C3502, rfl, hle, h3482, h3487, h3488, h3489, h3494, h3499, hS⟩ ⟨rfl, rfl, rfl, rfl, rfl, rfl, rfl, rfl, rfl, rfl, rfl, rfl, trivial⟩
      rintro _ w ⟨K3516, C3520, C3527, C3532, C3537, rfl, hle, h3517, h3522, h3523, h3524, h3529, h3534, hS⟩
      refine s_nil (qn ?_)
      refine s_if rfl (fun hc => ?_) (fun hc => ?_)
      · replace hf := bif_t hc hf
        refine s_seq (s_reg ?_)
        refine s_v (v := (.agg #[(.string ByteArray.empty), (.slice none 0 0), (.int .i64 0), (.string ByteArray.empty), (.bool false), (.bool false), (.int .i64 0), (.slice none 0 0), (.slice none 0 0)])) rfl rfl rfl ?_
        refine s_st (cs' := [(.string ByteArray.empty), (.slice none 0 0), (.int .i64 0), (.string ByteArray.empty), (.bool false), (.bool false), (.int .i64 0), (.slice none 0 0), (.slice none 0 0)]) 3 hS rfl rfl rfl rfl rfl ?_
        intro w hS
        replace hS : Sat w _ (flat [_, _, _, _, _, _, _, _]) := hS
        refine s_v rfl rfl rfl ?_
        refine s_nil (qn ?_)
        replace hS : Sat w K3516 (flat [_, _, _]) := (hS.sel [0, 3, 7] rfl)
        refine s_rets (qrt (qrb (qrt (qrt (qrb (qrt ?_))))))
        replace hf := LR.esc_some hf hm2935
        replace hS := hS.nilG
        replace hS := hS.nilG
        have hq := Option.some.inj hf
        subst hq
        refine s_ret2 rfl (rv_c (v := (.agg #[(.string ByteArray.empty), (.slice none 0 0), (.int .i64 0), (.string ByteArray.empty), (.bool false), (.bool false), (.int .i64 0), (.slice none 0 0), (.slice none 0 0)])) 3 hS rfl rfl rfl) (rv_t rfl) ?_
        exact ⟨K3516, _, hle, ⟨none, 0, none, 0, none, 0, [], [], C3520, rfl, SlK.nil, OwnS.nil, OwnS.nil, h3517, rfl⟩, Sat.shut [[], [], C3520] (hS.sel [1, 0, 2, 4] rfl)⟩
      replace hf := bif_f hc hf
      refine s_skip (qn ?_)
      refine d_start [1, 5, 6] [(26, [2])] hS ?_
      intro w hS
      refine d_v 0 (fun _ _ _ _ _ h => h) [1, 5, 6] hS rfl rfl rfl (by kernel_rfl) rfl rfl ?_
      refine d_ld 1 0 (fun _ _ _ _ _ h => h) [1, 5, 6] hS rfl rfl rfl rfl rfl (by kernel_rfl) rfl rfl ?_
      refine d_v 2 (fun _ _ _ _ _ h => h) [1, 5, 6] hS rfl rfl rfl (by kernel_rfl) rfl rfl ?_
      refine d_v 3 (fun _ _ _ _ _ h => h) [1, 5, 6] hS rfl rfl rfl (by kernel_rfl) rfl rfl ?_
      refine d_ld 4 0 (fun _ _ _ _ _ h => h) [1, 5, 6] hS rfl rfl rfl rfl rfl (by kernel_rfl) rfl rfl ?_
      refine d_v 5 (fun _ _ _ _ _ h => h) [1, 5, 6] hS rfl rfl rfl (by kernel_rfl) rfl rfl ?_
      refine d_v 6 (fun _ _ _ _ _ h => h) [1, 5, 6] hS rfl rfl rfl (by kernel_rfl) rfl rfl ?_
      refine d_ld 7 0 (fun _ _ _ _ _ h => h) [1, 5, 6] hS rfl rfl rfl rfl rfl (by kernel_rfl) rfl rfl ?_
      refine d_v 8 (fun _ _ _ _ _ h => h) [1, 5, 6] hS rfl rfl rfl (by kernel_rfl) rfl rfl ?_
      refine d_v 9 (fun _ _ _ _ _ h => h) [1, 5, 6] hS rfl rfl rfl (by kernel_rfl) rfl rfl ?_
      refine d_v 10 (fun _ _ _ _ _ h => h) [1, 5, 6] hS rfl rfl rfl (by kernel_rfl) rfl rfl ?_
      refine d_ld 11 2 (fun _ _ _ _ _ h => h) [1, 5, 6] hS rfl rfl rfl rfl rfl (by kernel_rfl) rfl rfl ?_
      obtain ⟨x3612, hx3613, hf⟩ := Option.bind_eq_some_iff.1 hf
      refine d_ixo 12 5 (fun _ _ _ _ _ h => h) [1, 5, 6] hS rfl h3534 hx3613 rfl rfl rfl rfl rfl rfl rfl (by kernel_rfl) rfl rfl ?_
      intro b3614 l3615 cs3618 l3616 hcs_ hC3619 hun3617
      obtain rfl := hcs_
      subst hC3619
      have hq3620 := KM.le.refl K3516
      refine d_ldm 13 1 0 (fun _ _ _ _ _ h => h) [1, 5, 6] hS rfl rfl rfl rfl rfl (by kernel_rfl) rfl rfl ?_
      refine d_v 14 (fun _ _ _ _ _ h => h) [1, 5, 6] hS rfl rfl rfl (by kernel_rfl) rfl rfl ?_
      refine d_v 15 (fun _ _ _ _ _ h => h) [1, 5, 6] hS rfl rfl rfl (by kernel_rfl) rfl rfl ?_
      refine d_ld 16 2 (fun _ _ _ _ _ h => h) [1, 5, 6] hS rfl rfl rfl rfl rfl (by kernel_rfl) rfl rfl ?_
      generalize hCg_ : ([(b3614, Cl (l3615 ++ (([(.int .i64 x3612)] : List Value) ++ l3616)) 3)] : Chunks) = C3621 at hS h3534 ⊢
      clear hCg_
      obtain ⟨x3622, hx3623, hf⟩ := Option.bind_eq_some_iff.1 hf
      refine d_ixo 17 5 (fun _ _ _ _ _ h => h) [1, 5, 6] hS rfl h3534 hx3623 rfl rfl rfl rfl rfl rfl rfl (by kernel_rfl) rfl rfl ?_
      intro b3624 l3625 cs3628 l3626 hcs_ hC3629 hun3627
      obtain rfl := hcs_
      subst hC3629
      have hq3630 := KM.le.refl K3516
      refine d_ldm 18 1 0 (fun _ _ _ _ _ h => h) [1, 5, 6] hS rfl rfl rfl rfl rfl (by kernel_rfl) rfl rfl ?_
      refine d_v 19 (fun _ _ _ _ _ h => h) [1, 5, 6] hS rfl rfl rfl (by kernel_rfl) rfl rfl ?_
      refine d_v 20 (fun _ _ _ _ _ h => h) [1, 5, 6] hS rfl rfl rfl (by kernel_rfl) rfl rfl ?_
      refine d_ld 21 2 (fun _ _ _ _ _ h => h) [1, 5, 6] hS rfl rfl rfl rfl rfl (by kernel_rfl) rfl rfl ?_
      generalize hCg_ : ([(b3624, Cl (l3625 ++ (([(.int .i64 x3622)] : List Value) ++ l3626)) 3)] : Chunks) = C3631 at hS h3534 ⊢
      clear hCg_
      obtain ⟨x3632, hx3633, hf⟩ := Option.bind_eq_some_iff.1 hf
      refine d_ixo 22 5 (fun _ _ _ _ _ h => h) [1, 5, 6] hS rfl h3534 hx3633 rfl rfl rfl rfl rfl rfl rfl (by kernel_rfl) rfl rfl ?_
      intro b3634 l3635 cs3638 l3636 hcs_ hC3639 hun3637
      obtain rfl := hcs_
      subst hC3639
      have hq3640 := KM.le.refl K3516
      refine d_ldm 23 1 0 (fun _ _ _ _ _ h => h) [1, 5, 6] hS rfl rfl rfl rfl rfl (by kernel_rfl) rfl rfl ?_
      obtain ⟨x3641, hx3642, hf⟩ := Option.bind_eq_some_iff.1 hf
      refine d_ixo 24 2 (fun _ _ _ _ _ h => h) [1, 5, 6] hS rfl h3524 hx3642 rfl rfl rfl rfl rfl rfl rfl (by kernel_rfl) rfl rfl ?_
      intro b3643 l3644 cs3647 l3645 hcs_ hC3648 hun3646
      obtain rfl := hcs_
      subst hC3648
      have hq3649 := KM.le.refl K3516
      refine d_v 25 (fun _ _ _ _ _ h => h) [1, 5, 6] hS rfl rfl rfl (by kernel_rfl) rfl rfl ?_
      refine d_op 26 rfl (by kernel_rfl) (by kernel_rfl) (fun X hX => ?_)
      have hlq := KM.le.refl K3516
      refine s_stm (cs' := [(.int .i64 x3612), (.int .i64 x3641.To), (.int .i64 x3641.At), (.string x3641.Catch)]) 2 0 hS rfl rfl rfl rfl rfl ?_
      intro w hS
      replace hS : Sat w _ (flat [_, _, _, _, _, _, _, _]) := hS
      have h3650 := hun3646 K3516 _ _ hq3649 (show GoData.cells 92 _ (api_Handler.mk x3612 x3641.To x3641.At x3641.Catch) _ from rfl)
      have hl3651 := OwnS.len h3650
      refine d_go [1, 5, 6] [1, 5, 6] [(29, [2])] [none] hX hS hlq rfl rfl ⟨rfl, trivial⟩ ?_
      generalize hCg_ : ([(b3643, Cl (l3644 ++ (([(.int .i64 x3612), (.int .i64 x3641.To), (.int .i64 x3641.At), (.string x3641.Catch)] : List Value) ++ l3645)) 92)] : Chunks) = C3652 at hS h3650 ⊢
      clear hCg_
      obtain ⟨x3653, hx3654, hf⟩ := Option.bind_eq_some_iff.1 hf
      refine d_ixo 27 2 (fun _ _ _ _ _ h => h) [1, 5, 6] hS rfl h3650 hx3654 rfl rfl rfl rfl rfl rfl rfl (by kernel_rfl) rfl rfl ?_
      intro b3655 l3656 cs3659 l3657 hcs_ hC3660 hun3658
      obtain rfl := hcs_
      subst hC3660
      have hq3661 := KM.le.refl K3516
      refine d_v 28 (fun _ _ _ _ _ h => h) [1, 5, 6] hS rfl rfl rfl (by kernel_rfl) rfl rfl ?_
      refine d_op 29 rfl (by kernel_rfl) (by kernel_rfl) (fun X hX => ?_)
      have hlq := KM.le.refl K3516
      refine s_stm (cs' := [(.int .i64 x3653.From), (.int .i64 x3622), (.int .i64 x3653.At), (.string x3653.Catch)]) 2 1 hS rfl rfl rfl rfl rfl ?_
      intro w hS
      replace hS : Sat w _ (flat [_, _, _, _, _, _, _, _]) := hS
      have h3662 := hun3658 K3516 _ _ hq3661 (show GoData.cells 92 _ (api_Handler.mk x3653.From x3622 x3653.At x3653.Catch) _ from rfl)
      have hl3663 := OwnS.len h3662
      refine d_go [1, 5, 6] [1, 5, 6] [(32, [2])] [none] hX hS hlq rfl rfl ⟨rfl, trivial⟩ ?_
      generalize hCg_ : ([(b3655, Cl (l3656 ++ (([(.int .i64 x3653.From), (.int .i64 x3622), (.int .i64 x3653.At), (.string x3653.Catch)] : List Value) ++ l3657)) 92)] : Chunks) = C3664 at hS h3662 ⊢
      clear hCg_
      obtain ⟨x3665, hx3666, hf⟩ := Option.bind_eq_some_iff.1 hf
      refine d_ixo 30 2 (fun _ _ _ _ _ h => h) [1, 5, 6] hS rfl h3662 hx3666 rfl rfl rfl rfl rfl rfl rfl (by kernel_rfl) rfl rfl ?_
      intro b3667 l3668 cs3671 l3669 hcs_ hC3672 hun3670
      obtain rfl := hcs_
      subst hC3672
      have hq3673 := KM.le.refl K3516
      refine d_v 31 (fun _ _ _ _ _ h => h) [1, 5, 6] hS rfl rfl rfl (by kernel_rfl) rfl rfl ?_
      refine d_op 32 rfl (by kernel_rfl) (by kernel_rfl) (fun X hX => ?_)
      have hlq := KM.le.refl K3516
      refine s_stm (cs' := [(.int .i64 x3665.From), (.int .i64 x3665.To), (.int .i64 x3632), (.string x3665.Catch)]) 2 2 hS rfl rfl rfl rfl rfl ?_
      intro w hS
      replace hS : Sat w _ (flat [_, _, _, _, _, _, _, _]) := hS
      have h3674 := hun3670 K3516 _ _ hq3673 (show GoData.cells 92 _ (api_Handler.mk x3665.From x3665.To x3632 x3665.Catch) _ from rfl)
      have hl3675 := OwnS.len h3674
      refine d_go [1, 5, 6] [1, 2, 5, 6] [] [none] hX hS hlq rfl rfl ⟨rfl, trivial⟩ ?_
      refine d_end (by kernel_rfl) ?_
      refine qbn (qn ?_)
      replace hS : Sat w K3516 (flat [_, _, _, _, _, _, _]) := (hS.sel [0, 1, 2, 3, 4, 5, 7] rfl)
      refine s_reg ?_
      iterate 2 refine s_v rfl rfl rfl ?_
      refine s_nil (qn ?_)
      refine s_join hY _ ⟨(((v3458.set (v3459 : Int).toNat (api_Handler.mk x3612 x3641.To x3641.At x3641.Catch)).set (v3459 : Int).toNat (api_Handler.mk x3653.From x3622 x3653.At x3653.Catch)).set (v3459 : Int).toNat (api_Handler.mk x3665.From x3665.To x3632 x3665.Catch)), w64 (v3459 + 1), K3516, C3520, [(b3667, Cl (l3668 ++ (([(.int .i64 x3665.From), (.int .i64 x3665.To), (.int .i64 x3632), (.string x3665.Catch)] : List Value) ++ l3669)) 92)], C3532, [(b3634, Cl (l3635 ++ (([(.int .i64 x3632)] : List Value) ++ l3636)) 3)], hf, rfl, hle, h3517, h3522, h3523, (OwnS.norm h3674), h3529, h3534, (by (try rw [hl3675]); (try rw [hl3675]); exact hS)⟩ ⟨rfl, rfl, rfl, rfl, rfl, rfl, (by rw [hl3675]; rfl), rfl, rfl, trivial⟩
    replace hf := bif_f hc hf
    refine s_exit (qxt (qxt (qxb (qn ?_))))
    have hq := Option.some.inj hf
    subst hq
    refine s_join hJ _ ⟨v3458, K3435, C3439, C3446, C3451, rfl, rfl, hle, h3436, h3441, h3442, h3443, h3448, (hS.sel [0, 1, 2, 3, 4, 6] rfl)⟩ ⟨rfl, rfl, rfl, rfl, trivial⟩
  rintro _ w ⟨s2932, K2914, C2918, C2925, C2930, rfl, rfl, hle, h2915, h2920, h2921, h2922, h2927, hS⟩
  replace hf := LR.elim_brk hm2935
  refine s_seq (s_seq (s_reg ?_))
  iterate 2 refine s_v rfl rfl rfl ?_
  refine s_st (cs' := [(.string p1.Name), (.slice a2 p1.Params.length c3), (.int .i64 p1.Ret.Kind), (.string p1.Ret.Class), (.bool p1.Static), (.bool p1.Abstract), (.int .i64 p1.Locals), (.slice a676 s1760.length c677), (.slice a2172 s2932.length c2173)]) 1 hS rfl rfl rfl rfl rfl ?_
  intro w hS
  replace hS : Sat w _ (flat [_, _, _, _, _, _]) := hS
  refine s_nil (qn (s_seq (s_reg ?_)))
  iterate 3 refine s_v rfl rfl rfl ?_
  refine s_nil (qn ?_)
  refine s_if rfl (fun hc => ?_) (fun hc => ?_)
  · replace hf := bif_t hc hf
    refine s_seq (s_reg ?_)
    refine s_v (v := (.agg #[(.string ByteArray.empty), (.slice none 0 0), (.int .i64 0), (.string ByteArray.empty), (.bool false), (.bool false), (.int .i64 0), (.slice none 0 0), (.slice none 0 0)])) rfl rfl rfl ?_
    refine s_st (cs' := [(.string ByteArray.empty), (.slice none 0 0), (.int .i64 0), (.string ByteArray.empty), (.bool false), (.bool false), (.int .i64 0), (.slice none 0 0), (.slice none 0 0)]) 3 hS rfl rfl rfl rfl rfl ?_
    intro w hS
    replace hS : Sat w _ (flat [_, _, _, _, _, _]) := hS
    refine s_v rfl rfl rfl ?_
    refine s_nil (qn ?_)
    replace hS : Sat w K2914 (flat [_, _, _]) := (hS.sel [0, 3, 5] rfl)
    refine s_rets (qrt ?_)
    replace hS := hS.nilG
    replace hS := hS.nilG
    have hq := Option.some.inj hf
    subst hq
    refine s_ret2 rfl (rv_c (v := (.agg #[(.string ByteArray.empty), (.slice none 0 0), (.int .i64 0), (.string ByteArray.empty), (.bool false), (.bool false), (.int .i64 0), (.slice none 0 0), (.slice none 0 0)])) 3 hS rfl rfl rfl) (rv_t rfl) ?_
    exact ⟨K2914, _, hle, ⟨none, 0, none, 0, none, 0, [], [], C2918, rfl, SlK.nil, OwnS.nil, OwnS.nil, h2915, rfl⟩, Sat.shut [[], [], C2918] (hS.sel [1, 0, 2, 4] rfl)⟩
  replace hf := bif_f hc hf
  refine s_skip (qn (s_seq (s_reg ?_)))
  refine s_ld (v := (.agg #[(.string p1.Name), (.slice a2 p1.Params.length c3), (.int .i64 p1.Ret.Kind), (.string p1.Ret.Class), (.bool p1.Static), (.bool p1.Abstract), (.int .i64 p1.Locals), (.slice a676 s1760.length c677), (.slice a2172 s2932.length c2173)])) 1 hS rfl rfl rfl rfl rfl ?_
  refine s_st (cs' := [(.string p1.Name), (.slice a2 p1.Params.length c3), (.int .i64 p1.Ret.Kind), (.string p1.Ret.Class), (.bool p1.Static), (.bool p1.Abstract), (.int .i64 p1.Locals), (.slice a676 s1760.length c677), (.slice a2172 s2932.length c2173)]) 3 hS rfl rfl rfl rfl rfl ?_
  intro w hS
  replace hS : Sat w _ (flat [_, _, _, _, _, _]) := hS
  refine s_v rfl rfl rfl ?_
  refine s_nil (qn ?_)
  replace hS : Sat w K2914 (flat [_, _, _, _, _]) := (hS.sel [0, 2, 3, 4, 5] rfl)
  refine s_rets ?_
  have hq := Option.some.inj hf
  subst hq
  refine s_ret2 rfl (rv_c (v := (.agg #[(.string p1.Name), (.slice a2 p1.Params.length c3), (.int .i64 p1.Ret.Kind), (.string p1.Ret.Class), (.bool p1.Static), (.bool p1.Abstract), (.int .i64 p1.Locals), (.slice a676 s1760.length c677), (.slice a2172 s2932.length c2173)])) 2 hS rfl rfl rfl) (rv_t rfl) ?_
  exact ⟨K2914, _, hle, ⟨a2, c3, a676, c677, a2172, c2173, C2930, C2925, C2918, rfl, h2920, h2927, h2922, h2915, rfl⟩, Sat.shut [C2930, C2925, C2918] (hS.sel [3, 1, 0, 4] rfl)⟩
-- 11 bonsai/bonsailaw19.RewriteSame
def bonsailaw19_RewriteSame.l0 (fu : Nat) (x94 : api_Method) : Nat → (List (List api_Instr)) → Int → Option (List (List api_Instr))
  | 0, _, _ => none
  | k + 1, v510, v511 => bif decide (v511 < (v510.length : Int)) then ((bif (Int.tmod v511 2) == 0 then ((idx x94.Code v511).bind fun x548 => (idx v510 v511).bind fun x555 => some (v510.set (v511 : Int).toNat [x548])) else (some v510)).bind fun s546 => bonsailaw19_RewriteSame.l0 fu x94 k s546 (w64 (v511 + 1))) else (some v510)
def bonsailaw19_RewriteSame.fn (fu : Nat) (p1 : Arr4_uint8) (p2 : (List Int)) (p6 : Int) (p7 : Bool) : Option Bool := (bonsailaw19_known.fn fu).bind fun x11 => bif !x11 then (some false) else (bif decide ((p2.length : Int) > 40) then (some true) else ((bonsaiseat_Archive.fn fu p1 p2 []).bind fun x16 => guardB ((x16.Classes.length : Int) != 0) ((idx x16.Classes (Int.tmod (w64 p6) (x16.Classes.length : Int))).bind fun x44 => (bif (x44.Methods.length : Int) == 0 then (some true) else ((idx x44.Methods 0).bind fun x80 => some x80.Abstract)).bind fun s78 => bif s78 then (some true) else ((idx x44.Methods 0).bind fun x94 => guardB (mayMake (x94.Code.length : Int) 24) ((bonsailaw19_RewriteSame.l0 fu x94 fu (List.replicate (x94.Code.length : Int).toNat (GoZero.zero 64 (α := (List api_Instr)))) 0).bind fun s348 => (rewrite_Method.fn fu x94 s348).bind fun x573 => (bif !x573.2 then (some true) else ((bonsairef1_SameMethod.fn fu x573.1 x94).bind fun x623 => some (!x623))).bind fun s615 => bif s615 then (some false) else (bif !p7 then (some true) else ((idx s348 0).bind fun x630 => (rewrite_Method.fn fu x94 (s348.set (0 : Int).toNat [(api_Instr.mk 19 0 (x94.Code.length : Int) ByteArray.empty ByteArray.empty ByteArray.empty ByteArray.empty)])).bind fun x649 => (bif !x649.2 then (some ((x649.1.Code.length : Int) == 0)) else (some false)).bind fun s672 => some s672)))))))
theorem bonsailaw19_RewriteSame_spec {K : KM} {fu : Nat} {p1 : Arr4_uint8} {p2 : (List Int)} {p6 : Int} {p7 : Bool} {r : Bool} {a3 : Option Addr} {c4 : Nat} (hf : bonsailaw19_RewriteSame.fn fu p1 p2 p6 p7 = some r) (h5 : SlK 5 K a3 c4 p2) : Sp Try.prog 11 [(.agg #[(.int .u8 p1.e0), (.int .u8 p1.e1), (.int .u8 p1.e2), (.int .u8 p1.e3)]), (.slice a3 p2.length c4), (.int .u8 p6), (.bool p7)] K [] (fun K' C v => v = (.bool r)) := by
  unfold bonsailaw19_RewriteSame.fn at hf
  refine spec_enter isf11 rfl ?_
  intro w L hS
  replace hS : Sat w K (flat [L]) := hS
  have hle := KM.le.refl K
  unfold bod11 Try.f11
  dsimp only [Option.getD_some, argSlots]
  refine s_seq (s_reg ?_)
  refine s_bx hS rfl rfl rfl ?_
  intro b9 w hS
  replace hS : Sat w K (flat ([(b9, Cl [(.int .u8 p1.e0), (.int .u8 p1.e1), (.int .u8 p1.e2), (.int .u8 p1.e3)] 68)] :: _)) := hS
  refine s_v rfl rfl rfl ?_
  refine s_nil (qn (s_seq (s_seq (s_reg ?_))))
  obtain ⟨x11, hx12, hf⟩ := Option.bind_eq_some_iff.1 hf
  refine s_call isf29 hS.nilG (bonsailaw19_known_spec hx12) rfl rfl rfl ?_
  rintro _ K13 C15 w hk14 rfl hS
  replace hS := hS.drop1
  refine s_v rfl rfl rfl ?_
  refine s_nil (qn ?_)
  refine s_if rfl (fun hc => ?_) (fun hc => ?_)
  · replace hf := bif_t hc hf
    refine s_seq (s_reg ?_)
    refine s_v rfl rfl rfl ?_
    refine s_nil (qn ?_)
    replace hS : Sat w K13 (flat [_]) := (hS.sel [1] rfl)
    refine s_rets (qrt ?_)
    have hq := Option.some.inj hf
    subst hq
    refine s_ret1 rfl (rv_t rfl) ?_
    replace hle := hle.trans hk14
    exact ⟨K13, _, hle, rfl, Sat.nilG (hS.sel [0] rfl)⟩
  replace hf := bif_f hc hf
  refine s_skip (qn (s_seq (s_seq (s_reg ?_))))
  iterate 3 refine s_v rfl rfl rfl ?_
  refine s_nil (qn ?_)
  refine s_if rfl (fun hc => ?_) (fun hc => ?_)
  · replace hf := bif_t hc hf
    refine s_seq (s_reg ?_)
    refine s_v rfl rfl rfl ?_
    refine s_nil (qn ?_)
    replace hS : Sat w K13 (flat [_]) := (hS.sel [1] rfl)
    refine s_rets (qrt ?_)
    have hq := Option.some.inj hf
    subst hq
    refine s_ret1 rfl (rv_t rfl) ?_
    replace hle := hle.trans hk14
    exact ⟨K13, _, hle, rfl, Sat.nilG (hS.sel [0] rfl)⟩
  replace hf := bif_f hc hf
  refine s_skip (qn (s_seq (s_reg ?_)))
  refine s_ld (v := (.agg #[(.int .u8 p1.e0), (.int .u8 p1.e1), (.int .u8 p1.e2), (.int .u8 p1.e3)])) 0 hS rfl rfl rfl rfl rfl ?_
  refine s_v rfl rfl rfl ?_
  obtain ⟨x16, hx17, hf⟩ := Option.bind_eq_some_iff.1 hf
  replace h5 := h5.mono hk14
  refine s_call isf31 hS.nilG (bonsaiseat_Archive_spec hx17 h5 SlK.nil) rfl rfl rfl ?_
  rintro _ K18 C20 w hk19 ⟨a21, c22, rfl, h23⟩ hS
  replace hS := hS.drop1
  refine s_al hS rfl rfl rfl ?_
  intro b24 w hS
  replace hS : Sat w K18 (flat ([(b24, Cl [(.slice none 0 0)] 74)] :: _)) := hS
  refine s_st (cs' := [(.slice a21 x16.Classes.length c22)]) 0 hS rfl rfl rfl rfl rfl ?_
  intro w hS
  replace hS : Sat w _ (flat [_, _, _]) := hS
  refine s_nil (qn ?_)
  replace hS : Sat w K18 (flat [_, _]) := (hS.sel [0, 2] rfl)
  refine s_seq ?_
  refine d_start [0] [] hS ?_
  intro w hS
  refine d_v 0 (fun _ _ _ _ _ h => h) [0] hS rfl rfl rfl (by kernel_rfl) rfl rfl ?_
  refine d_ld 1 0 (fun _ _ _ _ _ h => h) [0] hS rfl rfl rfl rfl rfl (by kernel_rfl) rfl rfl ?_
  refine d_v 2 (fun _ _ _ _ _ h => h) [0] hS rfl rfl rfl (by kernel_rfl) rfl rfl ?_
  refine d_v 3 (fun _ _ _ _ _ h => h) [0] hS rfl rfl rfl (by kernel_rfl) rfl rfl ?_
  refine d_v 4 (fun _ _ _ _ _ h => h) [0] hS rfl rfl rfl (by kernel_rfl) rfl rfl ?_
  refine d_ld 5 0 (fun _ _ _ _ _ h => h) [0] hS rfl rfl rfl rfl rfl (by kernel_rfl) rfl rfl ?_
  refine d_v 6 (fun _ _ _ _ _ h => h) [0] hS rfl rfl rfl (by kernel_rfl) rfl rfl ?_
  obtain ⟨hm43, hf⟩ := guardB_some hf
  refine d_rem 7 (fun _ _ _ _ _ h => h) [0] hS hm43 rfl rfl rfl rfl (by kernel_rfl) rfl rfl ?_
  obtain ⟨x44, hx45, hf⟩ := Option.bind_eq_some_iff.1 hf
  refine d_ixk 8 (fun _ _ _ _ _ h => h) [0] hS h23 rfl hx45 rfl rfl rfl rfl rfl rfl rfl (by kernel_rfl) rfl rfl ?_
  rintro b55 o56 _ ⟨a46, c47, a49, c50, a52, c53, rfl, h48, h51, h54⟩ h57
  refine d_ldk (v := (.agg #[(.string x44.Name), (.string x44.Super), (.slice a46 x44.Ifaces.length c47), (.int .i64 x44.Kind), (.slice a49 x44.Fields.length c50), (.slice a52 x44.Methods.length c53)])) 9 0 (fun _ _ _ _ _ h => h) [0] hS h57 rfl rfl rfl rfl (by kernel_rfl) rfl rfl ?_
  refine d_op 10 rfl (by kernel_rfl) (by kernel_rfl) (fun X hX => ?_)
  have hlq := KM.le.refl K18
  refine s_al hS rfl rfl rfl ?_
  intro b58 w hS
  replace hS : Sat w K18 (flat ([(b58, Cl [(.string ByteArray.empty), (.string ByteArray.empty), (.slice none 0 0), (.int .i64 0), (.slice none 0 0), (.slice none 0 0)] 81)] :: _)) := hS
  refine d_go [1] [1] [] [] hX hS hlq rfl rfl trivial ?_
  refine d_op 11 rfl (by kernel_rfl) (by kernel_rfl) (fun X hX => ?_)
  have hlq := KM.le.refl K18
  refine s_st (cs' := [(.string x44.Name), (.string x44.Super), (.slice a46 x44.Ifaces.length c47), (.int .i64 x44.Kind), (.slice a49 x44.Fields.length c50), (.slice a52 x44.Methods.length c53)]) 0 hS rfl rfl rfl rfl rfl ?_
  intro w hS
  replace hS : Sat w _ (flat [_, _, _]) := hS
  refine d_go [1] [1] [] [] hX hS hlq rfl rfl trivial ?_
  refine d_end (by kernel_rfl) ?_
  refine qn ?_
  replace hS : Sat w K18 (flat [_, _]) := (hS.sel [0, 2] rfl)
  refine s_seq (s_seq (s_reg ?_))
  refine s_v rfl rfl rfl ?_
  refine s_ld 0 hS rfl rfl rfl rfl rfl ?_
  iterate 3 refine s_v rfl rfl rfl ?_
  obtain ⟨s78, hst79, hf⟩ := Option.bind_eq_some_iff.1 hf
  refine r_cut [_, _, _, _, _, _] (fun τ w => ∃ (K74 : KM), τ = [(3, (.bool p7)), (10, (.pointer (some ⟨b58, 0, none⟩))), (46, (.bool s78))] ∧ KM.le K K74 ∧ SlK 9 K74 a46 c47 x44.Ifaces ∧ SlK 97 K74 a49 c50 x44.Fields ∧ SlK 67 K74 a52 c53 x44.Methods ∧ Sat w K74 (flat [[(b58, Cl [(.string x44.Name), (.string x44.Super), (.slice a46 x44.Ifaces.length c47), (.int .i64 x44.Kind), (.slice a49 x44.Fields.length c50), (.slice a52 x44.Methods.length c53)] 81)], L])) rfl (fun J hJ => ?_) ?_
  · replace hf := hst79
    cases hc : ((x44.Methods.length : Int) == 0)
    · replace hf := bif_f hc hf
      refine s_v rfl rfl rfl ?_
      refine s_ld 0 hS rfl rfl rfl rfl rfl ?_
      obtain ⟨x80, hx81, hf⟩ := Option.bind_eq_some_iff.1 hf
      refine s_ixk h54 rfl hx81 rfl rfl rfl rfl rfl rfl rfl ?_
      rintro b91 o92 _ ⟨a82, c83, a85, c86, a88, c89, rfl, h84, h87, h90⟩ h93
      refine s_v rfl rfl rfl ?_
      refine s_ldk 5 hS h93 rfl rfl rfl rfl ?_
      refine s_v rfl rfl rfl ?_
      have hq := Option.some.inj hf
      subst hq
      replace hle := hle.trans (hk14.trans hk19)
      refine r_join hJ _ ⟨K18, rfl, hle, h48, h51, h54, hS⟩ ⟨rfl, rfl, rfl, trivial⟩
    replace hf := bif_t hc hf
    refine s_no rfl rfl ?_
    refine s_no rfl rfl ?_
    refine s_no rfl rfl ?_
    refine s_no rfl rfl ?_
    refine s_no rfl rfl ?_
    refine s_v rfl rfl rfl ?_
    have hq := Option.some.inj hf
    subst hq
    replace hle := hle.trans (hk14.trans hk19)
    refine r_join hJ _ ⟨K18, rfl, hle, h48, h51, h54, hS⟩ ⟨rfl, rfl, rfl, trivial⟩
  rintro _ w ⟨K74, rfl, hle, h75, h76, h77, hS⟩
  refine s_nil (qn ?_)
  refine s_if rfl (fun hc => ?_) (fun hc => ?_)
  · replace hf := bif_t hc hf
    refine s_seq (s_reg ?_)
    refine s_v rfl rfl rfl ?_
    refine s_nil (qn ?_)
    replace hS : Sat w K74 (flat [_]) := (hS.sel [1] rfl)
    refine s_rets (qrt ?_)
    have hq := Option.some.inj hf
    subst hq
    refine s_ret1 rfl (rv_t rfl) ?_
    exact ⟨K74, _, hle, rfl, Sat.nilG (hS.sel [0] rfl)⟩
  replace hf := bif_f hc hf
  refine s_skip (qn (s_seq (s_reg ?_)))
  refine s_v rfl rfl rfl ?_
  refine s_ld 0 hS rfl rfl rfl rfl rfl ?_
  obtain ⟨x94, hx95, hf⟩ := Option.bind_eq_some_iff.1 hf
  refine s_ixk h77 rfl hx95 rfl rfl rfl rfl rfl rfl rfl ?_
  rintro b105 o106 _ ⟨a96, c97, a99, c100, a102, c103, rfl, h98, h101, h104⟩ h107
  refine s_ldk (v := (.agg #[(.string x94.Name), (.slice a96 x94.Params.length c97), (.int .i64 x94.Ret.Kind), (.string x94.Ret.Class), (.bool x94.Static), (.bool x94.Abstract), (.int .i64 x94.Locals), (.slice a99 x94.Code.length c100), (.slice a102 x94.Handlers.length c103)])) 0 hS h107 rfl rfl rfl rfl ?_
  refine s_al hS rfl rfl rfl ?_
  intro b108 w hS
  replace hS : Sat w K74 (flat ([(b108, Cl [(.string ByteArray.empty), (.slice none 0 0), (.int .i64 0), (.string ByteArray.empty), (.bool false), (.bool false), (.int .i64 0), (.slice none 0 0), (.slice none 0 0)] 67)] :: _)) := hS
  refine s_st (cs' := [(.string x94.Name), (.slice a96 x94.Params.length c97), (.int .i64 x94.Ret.Kind), (.string x94.Ret.Class), (.bool x94.Static), (.bool x94.Abstract), (.int .i64 x94.Locals), (.slice a99 x94.Code.length c100), (.slice a102 x94.Handlers.length c103)]) 0 hS rfl rfl rfl rfl rfl ?_
  intro w hS
  replace hS : Sat w _ (flat [_, _, _]) := hS
  refine s_nil (qn ?_)
  replace hS : Sat w K74 (flat [_, _]) := (hS.sel [0, 2] rfl)
  refine s_seq (s_reg ?_)
  refine s_v rfl rfl rfl ?_
  refine s_ld 0 hS rfl rfl rfl rfl rfl ?_
  refine s_v rfl rfl rfl ?_
  obtain ⟨hm110, hf⟩ := guardB_some hf
  refine s_mks (e := 64) (α := (List api_Instr)) hS rfl rfl rfl rfl (mayMake_le hm110).1 (mayMake_le hm110).2 rfl rfl rfl rfl rfl rfl ?_
  intro a111 c112 w C113 h114 hS
  refine s_v rfl rfl rfl ?_
  refine s_nil (qn ?_)
  obtain ⟨s348, hst349, hf⟩ := Option.bind_eq_some_iff.1 hf
  refine s_cut (fun τ w => ∃ (K339 : KM) (C346 : Chunks), τ = [(3, (.bool p7)), (11, (.pointer (some ⟨b108, 0, none⟩))), (12, (.slice a111 s348.length c112))] ∧ KM.le K K339 ∧ SlK 63 K339 a96 c97 x94.Params ∧ SlK 77 K339 a99 c100 x94.Code ∧ SlK 92 K339 a102 c103 x94.Handlers ∧ OwnS 64 K339 (.slice a111 s348.length c112) s348 C346 ∧ Sat w K339 (flat [[(b108, Cl [(.string x94.Name), (.slice a96 x94.Params.length c97), (.int .i64 x94.Ret.Kind), (.string x94.Ret.Class), (.bool x94.Static), (.bool x94.Abstract), (.int .i64 x94.Locals), (.slice a99 x94.Code.length c100), (.slice a102 x94.Handlers.length c103)] 67)], C346, L])) (fun J hJ => ?_) ?_
  · replace hf := hst349
    refine s_seq (s_reg ?_)
    refine s_v rfl rfl rfl ?_
    refine s_nil (qn (s_block ?_))
    refine s_loopp (fun n τ w => ∃ (v510 : (List (List api_Instr))) (v511 : Int) (K501 : KM) (C508 : Chunks), bonsailaw19_RewriteSame.l0 fu x94 n v510 v511 = some s348 ∧ τ = [(3, (.bool p7)), (11, (.pointer (some ⟨b108, 0, none⟩))), (12, (.slice a111 v510.length c112)), (13, (.int .i64 v511))] ∧ KM.le K K501 ∧ SlK 63 K501 a96 c97 x94.Params ∧ SlK 77 K501 a99 c100 x94.Code ∧ SlK 92 K501 a102 c103 x94.Handlers ∧ OwnS 64 K501 (.slice a111 v510.length c112) v510 C508 ∧ Sat w K501 (flat [[(b108, Cl [(.string x94.Name), (.slice a96 x94.Params.length c97), (.int .i64 x94.Ret.Kind), (.string x94.Ret.Class), (.bool x94.Static), (.bool x94.Abstract), (.int .i64 x94.Locals), (.slice a99 x94.Code.length c100), (.slice a102 x94.Handlers.length c103)] 67)], C508, L])) _ ⟨(List.replicate (x94.Code.length : Int).toNat (GoZero.zero 64 (α := (List api_Instr)))), 0, K74, C113, hf, rfl, hle, h98, h101, h104, h114, (hS.sel [1, 0, 2] rfl)⟩ ⟨rfl, rfl, rfl, rfl, trivial⟩ ?_ ?_
    · rintro _ _ ⟨_, _, _, _, hf, _⟩
      exact absurd hf (by simp [bonsailaw19_RewriteSame.l0])
    rintro n _ w Y hY ⟨v510, v511, K501, C508, hf, rfl, hle, h502, h503, h504, h505, hS⟩
    rw [bonsailaw19_RewriteSame.l0] at hf
    refine s_seq (s_seq (s_reg ?_))
    iterate 4 refine s_v rfl rfl rfl ?_
    refine s_nil (qn ?_)
    refine s_if rfl (fun hc => ?_) (fun hc => ?_)
    · replace hf := bif_t hc hf
      refine s_skip (qn ?_)
      obtain ⟨s546, hst547, hf⟩ := Option.bind_eq_some_iff.1 hf
      refine s_cut (fun τ w => ∃ (K537 : KM) (C544 : Chunks), τ = [(3, (.bool p7)), (11, (.pointer (some ⟨b108, 0, none⟩))), (12, (.slice a111 s546.length c112)), (13, (.int .i64 v511))] ∧ KM.le K K537 ∧ SlK 63 K537 a96 c97 x94.Params ∧ SlK 77 K537 a99 c100 x94.Code ∧ SlK 92 K537 a102 c103 x94.Handlers ∧ OwnS 64 K537 (.slice a111 s546.length c112) s546 C544 ∧ Sat w K537 (flat [[(b108, Cl [(.string x94.Name), (.slice a96 x94.Params.length c97), (.int .i64 x94.Ret.Kind), (.string x94.Ret.Class), (.bool x94.Static), (.bool x94.Abstract), (.int .i64 x94.Locals), (.slice a99 x94.Code.length c100), (.slice a102 x94.Handlers.length c103)] 67)], C544, L])) (fun J hJ => ?_) ?_
      · replace hf := hst547
        refine s_block (s_seq (s_reg ?_))
        iterate 3 refine s_v rfl rfl rfl ?_
        refine s_nil (qn ?_)
        refine s_if rfl (fun hc => ?_) (fun hc => ?_)
        · replace hf := bif_t hc hf
          refine s_reg ?_
          iterate 3 refine s_v rfl rfl rfl ?_
          refine s_ld 0 hS rfl rfl rfl rfl rfl ?_
          refine s_v rfl rfl rfl ?_
          obtain ⟨x548, hx549, hf⟩ := Option.bind_eq_some_iff.1 hf
          refine s_ixk h503 rfl hx549 rfl rfl rfl rfl rfl rfl rfl ?_
          rintro b550 o551 _ rfl h552
          refine s_ldk (v := (.agg #[(.int .i64 x548.Op), (.int .i32 x548.N), (.int .i64 x548.K), (.string x548.S), (.string x548.Class), (.string x548.Name), (.string x548.Desc)])) 0 hS h552 rfl rfl rfl rfl ?_
          refine s_bwc (cs := [(.int .i64 x548.Op), (.int .i32 x548.N), (.int .i64 x548.K), (.string x548.S), (.string x548.Class), (.string x548.Name), (.string x548.Desc)]) hS rfl rfl rfl rfl rfl rfl rfl rfl rfl rfl ?_
          intro b553 w hS
          obtain ⟨x555, hx556, hf⟩ := Option.bind_eq_some_iff.1 hf
          refine s_ixo 2 hS rfl h505 hx556 rfl rfl rfl rfl rfl rfl rfl ?_
          intro b560 l561 cs564 l562 hcs_ hC565 hun563
          obtain ⟨a557, c558, rfl, h559⟩ := hcs_
          subst hC565
          have hq566 := KM.le.refl K501
          have h567 : OwnS 77 K501 (.slice (some ⟨b553, 0, none⟩) 1 1) [x548] [(b553, Cl [(.int .i64 x548.Op), (.int .i32 x548.N), (.int .i64 x548.K), (.string x548.S), (.string x548.Class), (.string x548.Name), (.string x548.Desc)] 77)] := OwnS.lit ⟨[(.int .i64 x548.Op), (.int .i32 x548.N), (.int .i64 x548.K), (.string x548.S), (.string x548.Class), (.string x548.Name), (.string x548.Desc)], _, rfl, rfl, rfl⟩ rfl rfl
          obtain ⟨K568, hk569, h570, hS⟩ := h567.freeze (hS.sel [0, 1, 2, 3] rfl)
          replace hS : Sat w _ (flat [_, _, _]) := hS
          refine s_stm (cs' := [(.slice (some ⟨b553, 0, none⟩) 1 1)]) 1 0 hS rfl rfl rfl rfl rfl ?_
          intro w hS
          replace hS : Sat w _ (flat [_, _, _]) := hS
          replace hq566 := hq566.trans hk569
          have h571 := hun563 K568 _ _ hq566 (show GoData.cells 64 _ [x548] _ from ⟨(some ⟨b553, 0, none⟩), 1, rfl, h570⟩)
          have hl572 := OwnS.len h571
          refine s_nil (qbn (qn ?_))
          have hq := Option.some.inj hf
          subst hq
          replace h502 := h502.mono hk569
          replace h503 := h503.mono hk569
          replace h504 := h504.mono hk569
          replace hle := hle.trans hk569
          refine s_join hJ _ ⟨K568, [(b560, Cl (l561 ++ (([(.slice (some ⟨b553, 0, none⟩) 1 1)] : List Value) ++ l562)) 64)], rfl, hle, h502, h503, h504, (OwnS.norm h571), (by (try rw [hl572]); exact hS)⟩ ⟨rfl, rfl, (by rw [hl572]; rfl), rfl, trivial⟩
        replace hf := bif_f hc hf
        refine s_skip (qbn (qn ?_))
        have hq := Option.some.inj hf
        subst hq
        refine s_join hJ _ ⟨K501, C508, rfl, hle, h502, h503, h504, h505, hS⟩ ⟨rfl, rfl, rfl, rfl, trivial⟩
      rintro _ w ⟨K537, C544, rfl, hle, h538, h539, h540, h541, hS⟩
      refine s_reg ?_
      iterate 3 refine s_v rfl rfl rfl ?_
      refine s_nil (qn ?_)
      refine s_join hY _ ⟨s546, w64 (v511 + 1), K537, C544, hf, rfl, hle, h538, h539, h540, h541, hS⟩ ⟨rfl, rfl, rfl, rfl, trivial⟩
    replace hf := bif_f hc hf
    refine s_exit (qxt (qxt (qxb (qn ?_))))
    have hq := Option.some.inj hf
    subst hq
    refine s_join hJ _ ⟨K501, C508, rfl, hle, h502, h503, h504, h505, hS⟩ ⟨rfl, rfl, rfl, trivial⟩
  rintro _ w ⟨K339, C346, rfl, hle, h340, h341, h342, h343, hS⟩
  refine s_seq (s_reg ?_)
  refine s_ld (v := (.agg #[(.string x94.Name), (.slice a96 x94.Params.length c97), (.int .i64 x94.Ret.Kind), (.string x94.Ret.Class), (.bool x94.Static), (.bool x94.Abstract), (.int .i64 x94.Locals), (.slice a99 x94.Code.length c100), (.slice a102 x94.Handlers.length c103)])) 0 hS rfl rfl rfl rfl rfl ?_
  refine s_v rfl rfl rfl ?_
  obtain ⟨x573, hx574, hf⟩ := Option.bind_eq_some_iff.1 hf
  refine s_call isf33 (Sat.shut [C346] (hS.sel [1, 0, 2] rfl)) (rewrite_Method_spec_b1 hx574 h340 h341 h342 h343) rfl rfl rfl ?_
  rintro _ K575 _ w hk576 ⟨a578, c579, a581, c582, a584, c585, C587, C588, C589, rfl, h580, h583, h586, h590, rfl⟩ hS
  replace hS := hS.open3
  iterate 3 refine s_v rfl rfl rfl ?_
  refine s_al hS rfl rfl rfl ?_
  intro b593 w hS
  replace hS : Sat w K575 (flat ([(b593, Cl [(.string ByteArray.empty), (.slice none 0 0), (.int .i64 0), (.string ByteArray.empty), (.bool false), (.bool false), (.int .i64 0), (.slice none 0 0), (.slice none 0 0)] 67)] :: _)) := hS
  refine s_st (cs' := [(.string x573.1.Name), (.slice a578 x573.1.Params.length c579), (.int .i64 x573.1.Ret.Kind), (.string x573.1.Ret.Class), (.bool x573.1.Static), (.bool x573.1.Abstract), (.int .i64 x573.1.Locals), (.slice a581 x573.1.Code.length c582), (.slice a584 x573.1.Handlers.length c585)]) 0 hS rfl rfl rfl rfl rfl ?_
  intro w hS
  replace hS : Sat w _ (flat [_, _, _, _, _, _]) := hS
  refine s_v rfl rfl rfl ?_
  refine s_nil (qn (s_seq (s_seq (s_reg ?_))))
  iterate 3 refine s_v rfl rfl rfl ?_
  obtain ⟨s615, hst616, hf⟩ := Option.bind_eq_some_iff.1 hf
  refine r_cut [_, _, _, _, _] (fun τ w => ∃ (K606 : KM) (C613 : Chunks), τ = [(3, (.bool p7)), (11, (.pointer (some ⟨b108, 0, none⟩))), (12, (.slice a111 s348.length c112)), (86, (.bool s615))] ∧ KM.le K K606 ∧ SlK 63 K606 a96 c97 x94.Params ∧ SlK 77 K606 a99 c100 x94.Code ∧ SlK 92 K606 a102 c103 x94.Handlers ∧ OwnS 64 K606 (.slice a111 s348.length c112) s348 C613 ∧ Sat w K606 (flat [[(b108, Cl [(.string x94.Name), (.slice a96 x94.Params.length c97), (.int .i64 x94.Ret.Kind), (.string x94.Ret.Class), (.bool x94.Static), (.bool x94.Abstract), (.int .i64 x94.Locals), (.slice a99 x94.Code.length c100), (.slice a102 x94.Handlers.length c103)] 67)], C613, L])) rfl (fun J hJ => ?_) ?_
  · replace hf := hst616
    cases hc : (!x573.2)
    · replace hf := bif_f hc hf
      refine s_ld (v := (.agg #[(.string x573.1.Name), (.slice a578 x573.1.Params.length c579), (.int .i64 x573.1.Ret.Kind), (.string x573.1.Ret.Class), (.bool x573.1.Static), (.bool x573.1.Abstract), (.int .i64 x573.1.Locals), (.slice a581 x573.1.Code.length c582), (.slice a584 x573.1.Handlers.length c585)])) 0 hS rfl rfl rfl rfl rfl ?_
      refine s_ld (v := (.agg #[(.string x94.Name), (.slice a96 x94.Params.length c97), (.int .i64 x94.Ret.Kind), (.string x94.Ret.Class), (.bool x94.Static), (.bool x94.Abstract), (.int .i64 x94.Locals), (.slice a99 x94.Code.length c100), (.slice a102 x94.Handlers.length c103)])) 4 hS rfl rfl rfl rfl rfl ?_
      obtain ⟨K617, hk618, h619, hS⟩ := h583.freeze (hS.sel [1, 0, 2, 3, 4, 5] rfl)
      replace hS : Sat w _ (flat [_, _, _, _, _]) := hS
      replace h586 := h586.mono hk618
      obtain ⟨K620, hk621, h622, hS⟩ := h586.freeze (hS.sel [1, 0, 2, 3, 4] rfl)
      replace hS : Sat w _ (flat [_, _, _, _]) := hS
      obtain ⟨x623, hx624, hf⟩ := Option.bind_eq_some_iff.1 hf
      replace h340 := h340.mono ((hk576.trans hk618).trans hk621)
      replace h341 := h341.mono ((hk576.trans hk618).trans hk621)
      replace h342 := h342.mono ((hk576.trans hk618).trans hk621)
      replace h580 := h580.mono (hk618.trans hk621)
      replace h619 := h619.mono hk621
      refine s_call isf35 hS.nilG (bonsairef1_SameMethod_spec hx624 h580 h619 h622 h340 h341 h342) rfl rfl rfl ?_
      rintro _ K625 C627 w hk626 rfl hS
      replace hS := hS.drop1
      iterate 2 refine s_v rfl rfl rfl ?_
      have hq := Option.some.inj hf
      subst hq
      have hkk0 := ((hk576.trans hk618).trans hk621).trans hk626
      replace hle := hle.trans hkk0
      replace h590 := h590.mono ((hk618.trans hk621).trans hk626)
      replace h340 := h340.mono hk626
      replace h341 := h341.mono hk626
      replace h342 := h342.mono hk626
      refine r_join hJ _ ⟨K625, C589, rfl, hle, h340, h341, h342, h590, (hS.sel [2, 1, 3] rfl)⟩ ⟨rfl, rfl, rfl, rfl, trivial⟩
    replace hf := bif_t hc hf
    refine s_no rfl rfl ?_
    refine s_no rfl rfl ?_
    refine s_no rfl rfl ?_
    refine s_no rfl rfl ?_
    refine s_v rfl rfl rfl ?_
    have hq := Option.some.inj hf
    subst hq
    replace h340 := h340.mono hk576
    replace h341 := h341.mono hk576
    replace h342 := h342.mono hk576
    replace hle := hle.trans hk576
    refine r_join hJ _ ⟨K575, C589, rfl, hle, h340, h341, h342, h590, (hS.sel [4, 3, 5] rfl)⟩ ⟨rfl, rfl, rfl, rfl, trivial⟩
  rintro _ w ⟨K606, C613, rfl, hle, h607, h608, h609, h610, hS⟩
  refine s_nil (qn ?_)
  refine s_if rfl (fun hc => ?_) (fun hc => ?_)
  · replace hf := bif_t hc hf
    refine s_seq (s_reg ?_)
    refine s_v rfl rfl rfl ?_
    refine s_nil (qn ?_)
    replace hS : Sat w K606 (flat [_]) := (hS.sel [2] rfl)
    refine s_rets (qrt ?_)
    have hq := Option.some.inj hf
    subst hq
    refine s_ret1 rfl (rv_t rfl) ?_
    exact ⟨K606, _, hle, rfl, Sat.nilG (hS.sel [0] rfl)⟩
  replace hf := bif_f hc hf
  refine s_skip (qn (s_seq (s_seq (s_reg ?_))))
  iterate 2 refine s_v rfl rfl rfl ?_
  refine s_nil (qn ?_)
  refine s_if rfl (fun hc => ?_) (fun hc => ?_)
  · replace hf := bif_t hc hf
    refine s_seq (s_reg ?_)
    refine s_v rfl rfl rfl ?_
    refine s_nil (qn ?_)
    replace hS : Sat w K606 (flat [_]) := (hS.sel [2] rfl)
    refine s_rets (qrt ?_)
    have hq := Option.some.inj hf
    subst hq
    refine s_ret1 rfl (rv_t rfl) ?_
    exact ⟨K606, _, hle, rfl, Sat.nilG (hS.sel [0] rfl)⟩
  replace hf := bif_f hc hf
  refine s_skip (qn (s_seq (s_reg ?_)))
  iterate 2 refine s_v rfl rfl rfl ?_
  refine s_ld 0 hS rfl rfl rfl rfl rfl ?_
  refine s_v rfl rfl rfl ?_
  refine s_v (v := (.agg #[(.int .i64 19), (.int .i32 0), (.int .i64 (x94.Code.length : Int)), (.string ByteArray.empty), (.string ByteArray.empty), (.string ByteArray.empty), (.string ByteArray.empty)])) rfl rfl rfl ?_
  refine s_bwc (cs := [(.int .i64 19), (.int .i32 0), (.int .i64 (x94.Code.length : Int)), (.string ByteArray.empty), (.string ByteArray.empty), (.string ByteArray.empty), (.string ByteArray.empty)]) hS rfl rfl rfl rfl rfl rfl rfl rfl rfl rfl ?_
  intro b628 w hS
  obtain ⟨x630, hx631, hf⟩ := Option.bind_eq_some_iff.1 hf
  refine s_ixo 2 hS rfl h610 hx631 rfl rfl rfl rfl rfl rfl rfl ?_
  intro b635 l636 cs639 l637 hcs_ hC640 hun638
  obtain ⟨a632, c633, rfl, h634⟩ := hcs_
  subst hC640
  have hq641 := KM.le.refl K606
  have h642 : OwnS 77 K606 (.slice (some ⟨b628, 0, none⟩) 1 1) [(api_Instr.mk 19 0 (x94.Code.length : Int) ByteArray.empty ByteArray.empty ByteArray.empty ByteArray.empty)] [(b628, Cl [(.int .i64 19), (.int .i32 0), (.int .i64 (x94.Code.length : Int)), (.string ByteArray.empty), (.string ByteArray.empty), (.string ByteArray.empty), (.string ByteArray.empty)] 77)] := OwnS.lit ⟨[(.int .i64 19), (.int .i32 0), (.int .i64 (x94.Code.length : Int)), (.string ByteArray.empty), (.string ByteArray.empty), (.string ByteArray.empty), (.string ByteArray.empty)], _, rfl, rfl, rfl⟩ rfl rfl
  obtain ⟨K643, hk644, h645, hS⟩ := h642.freeze (hS.sel [0, 1, 2, 3] rfl)
  replace hS : Sat w _ (flat [_, _, _]) := hS
  refine s_stm (cs' := [(.slice (some ⟨b628, 0, none⟩) 1 1)]) 1 0 hS rfl rfl rfl rfl rfl ?_
  intro w hS
  replace hS : Sat w _ (flat [_, _, _]) := hS
  replace hq641 := hq641.trans hk644
  have h646 := hun638 K643 _ _ hq641 (show GoData.cells 64 _ [(api_Instr.mk 19 0 (x94.Code.length : Int) ByteArray.empty ByteArray.empty ByteArray.empty ByteArray.empty)] _ from ⟨(some ⟨b628, 0, none⟩), 1, rfl, h645⟩)
  have hl647 := OwnS.len h646
  refine s_nil (qn (s_seq (s_reg ?_)))
  refine s_ld (v := (.agg #[(.string x94.Name), (.slice a96 x94.Params.length c97), (.int .i64 x94.Ret.Kind), (.string x94.Ret.Class), (.bool x94.Static), (.bool x94.Abstract), (.int .i64 x94.Locals), (.slice a99 x94.Code.length c100), (.slice a102 x94.Handlers.length c103)])) 0 hS rfl rfl rfl rfl rfl ?_
  refine s_v rfl rfl rfl ?_
  generalize hCg_ : ([(b635, Cl (l636 ++ (([(.slice (some ⟨b628, 0, none⟩) 1 1)] : List Value) ++ l637)) 64)] : Chunks) = C648 at hS h646
  clear hCg_
  obtain ⟨x649, hx650, hf⟩ := Option.bind_eq_some_iff.1 hf
  replace h607 := h607.mono hk644
  replace h608 := h608.mono hk644
  replace h609 := h609.mono hk644
  refine s_call isf33 (Sat.shut [C648] (hS.sel [1, 0, 2] rfl)) (rewrite_Method_spec_b1 hx650 h607 h608 h609 (OwnS.norm h646)) (by (try rw [hl647]); rfl) rfl rfl ?_
  rintro _ K651 _ w hk652 ⟨a654, c655, a657, c658, a660, c661, C663, C664, C665, rfl, h656, h659, h662, h666, rfl⟩ hS
  replace hS := hS.open3
  iterate 3 refine s_v rfl rfl rfl ?_
  refine s_al hS rfl rfl rfl ?_
  intro b669 w hS
  replace hS : Sat w K651 (flat ([(b669, Cl [(.string ByteArray.empty), (.slice none 0 0), (.int .i64 0), (.string ByteArray.empty), (.bool false), (.bool false), (.int .i64 0), (.slice none 0 0), (.slice none 0 0)] 67)] :: _)) := hS
  refine s_st (cs' := [(.string x649.1.Name), (.slice a654 x649.1.Params.length c655), (.int .i64 x649.1.Ret.Kind), (.string x649.1.Ret.Class), (.bool x649.1.Static), (.bool x649.1.Abstract), (.int .i64 x649.1.Locals), (.slice a657 x649.1.Code.length c658), (.slice a660 x649.1.Handlers.length c661)]) 0 hS rfl rfl rfl rfl rfl ?_
  intro w hS
  replace hS : Sat w _ (flat [_, _, _, _, _, _]) := hS
  refine s_v rfl rfl rfl ?_
  refine s_nil (qn ?_)
  replace hS : Sat w K651 (flat [_, _, _, _]) := (hS.sel [0, 1, 2, 5] rfl)
  refine s_seq (s_reg ?_)
  iterate 3 refine s_v rfl rfl rfl ?_
  obtain ⟨s672, hst673, hf⟩ := Option.bind_eq_some_iff.1 hf
  refine r_cut [_, _, _, _, _] (fun τ w => ∃ (K671 : KM), τ = [(109, (.bool s672))] ∧ KM.le K K671 ∧ Sat w K671 (flat [L])) rfl (fun J hJ => ?_) ?_
  · replace hf := hst673
    cases hc : (!x649.2)
    · replace hf := bif_f hc hf
      refine s_no rfl rfl ?_
      refine s_no rfl rfl ?_
      refine s_no rfl rfl ?_
      refine s_no rfl rfl ?_
      refine s_v rfl rfl rfl ?_
      have hq := Option.some.inj hf
      subst hq
      replace hle := hle.trans (hk644.trans hk652)
      refine r_join hJ _ ⟨K651, rfl, hle, (hS.sel [3] rfl)⟩ ⟨rfl, trivial⟩
    replace hf := bif_t hc hf
    refine s_v rfl rfl rfl ?_
    refine s_ld 0 hS rfl rfl rfl rfl rfl ?_
    iterate 3 refine s_v rfl rfl rfl ?_
    have hq := Option.some.inj hf
    subst hq
    replace hle := hle.trans (hk644.trans hk652)
    refine r_join hJ _ ⟨K651, rfl, hle, (hS.sel [3] rfl)⟩ ⟨rfl, trivial⟩
  rintro _ w ⟨K671, rfl, hle, hS⟩
  refine s_v rfl rfl rfl ?_
  refine s_nil (qn (s_rets ?_))
  have hq := Option.some.inj hf
  subst hq
  refine s_ret1 rfl (rv_t rfl) ?_
  exact ⟨K671, _, hle, rfl, Sat.nilG (hS.sel [0] rfl)⟩
end Go.Proofs.Ytgaldjnnfkdohaa
