/- Functions of the program, and their walks: what each reckons, and that its code reckons it. -/
import Derived.Test.YtdgpckcphkpclaaSk
set_option linter.unusedVariables false
set_option linter.unusedSimpArgs false
set_option maxHeartbeats 0
set_option maxRecDepth 100000
namespace Go.Proofs.Ytdgpckcphkpclaa
open Go Go.Fw
noncomputable def bod3 : Code := Try.f3.body.getD .skip
theorem isf3 : IsFn Try.prog 3 Try.f3 bod3 := ⟨Try.func3, rfl, by decide⟩
-- 3 bonsai/bonsailaw7.SetTells
def bonsailaw7_SetTells.l0 (fu : Nat) (p5 : (List Int)) : Nat → (List Int) → (List Int) → Int → Option (LR ((List Int) × (List Int)) Bool)
  | 0, _, _, _ => none
  | k + 1, v1240, v1241, v1242 => bif decide (v1242 < (p5.length : Int)) then (LR.then ((idx p5 v1242).bind fun x1368 => (bif (Int.tmod v1242 2) == 0 then (some (iand .i64 x1368 3)) else (some x1368)).bind fun s1387 => (bonsailaw7_has.fn fu v1241 s1387).bind fun x1393 => (set_Set_int_Has.fn v1240 s1387).bind fun x1400 => (bif !(x1400.1 == x1393) then (some (x1400.2, true)) else ((set_Set_int_Add.fn x1400.2 s1387).bind fun x1430 => some (x1430.2, x1430.1 == x1393))).bind fun s1428 => (bif s1428.2 then (some (s1428.1, true)) else ((set_Set_int_Has.fn s1428.1 s1387).bind fun x1460 => some (x1460.2, !x1460.1))).bind fun s1458 => bif s1458.2 then (LR.esc (LR.esc (some false))) else (bif !x1393 then (guardB (roomy v1241.length 1 8) (some (.brk (s1458.1, (v1241 ++ ([s1387] : List Int)))))) else (some (.brk (s1458.1, v1241))))) fun s1364 => bonsailaw7_SetTells.l0 fu p5 k s1364.1 s1364.2 (w64 (v1242 + 1))) else (some (.brk (v1240, v1241)))
def bonsailaw7_SetTells.l2 (fu : Nat) : Nat → (List Int) → Int → Option (List Int)
  | 0, _, _ => none
  | k + 1, v11251, v11252 => (bif decide (v11252 > 0) then ((idx v11251 v11252).bind fun x11363 => (idx v11251 (w64 (v11252 - 1))).bind fun x11373 => some (decide (x11363 < x11373))) else (some false)).bind fun s11323 => bif s11323 then ((idx v11251 (w64 (v11252 - 1))).bind fun x11464 => (idx v11251 v11252).bind fun x11474 => (idx v11251 v11252).bind fun x11484 => (idx (v11251.set (v11252 : Int).toNat x11464) (w64 (v11252 - 1))).bind fun x11496 => bonsailaw7_SetTells.l2 fu k ((v11251.set (v11252 : Int).toNat x11464).set (w64 (v11252 - 1) : Int).toNat x11474) (w64 (v11252 - 1))) else (some v11251)
def bonsailaw7_SetTells.l1 (fu : Nat) : Nat → (List Int) → Int → Option (List Int)
  | 0, _, _ => none
  | k + 1, v9854, v9855 => bif decide (v9855 < (v9854.length : Int)) then ((bonsailaw7_SetTells.l2 fu fu v9854 v9855).bind fun s10687 => bonsailaw7_SetTells.l1 fu k s10687 (w64 (v9855 + 1))) else (some v9854)
def bonsailaw7_SetTells.fn (fu : Nat) (p1 : (List ByteArray)) (p5 : (List Int)) (p9 : ByteArray) (p10 : Int) : Option Bool := (bonsailaw7_known.fn fu).bind fun x12 => bif !x12 then (some false) else ((bif decide ((p1.length : Int) > 20) then (some true) else (some (decide ((p5.length : Int) > 20)))).bind fun s20 => bif s20 then (some true) else ((set_New_string.fn fu p1).bind fun x22 => (set_New_int.fn fu []).bind fun x30 => LR.then (bonsailaw7_SetTells.l0 fu p5 fu x30 ([] : List Int) 0) fun s760 => (bonsailaw7_SetTells.l1 fu fu s760.2 1).bind fun s6496 => (set_Set_int_List.fn s760.1).bind fun x11507 => (bonsaihelp_Ints.fn fu x11507.1 s6496).bind fun x11528 => (bif x11528 then ((set_Set_int_Len.fn x11507.2).bind fun x11559 => some (x11559.2, x11559.1 == (s6496.length : Int))) else (some (x11507.2, false))).bind fun s11557 => (bif s11557.2 then ((set_Set_int_Has.fn s11557.1 p10).bind fun x11591 => (bonsailaw7_has.fn fu s6496 p10).bind fun x11602 => some (x11591.1 == x11602)) else (some false)).bind fun s11589 => (bif s11589 then ((set_Set_string_List.fn x22).bind fun x11648 => (bonsairef7_Sorted.fn fu p1).bind fun x11661 => (bonsaihelp_Strings.fn fu x11648.1 x11661).bind fun x11673 => some (x11648.2, x11673)) else (some (x22, false))).bind fun s11646 => (bif s11646.2 then ((set_Set_string_Has.fn s11646.1 p9).bind fun x11699 => (bonsairef7_In.fn fu p1 p9).bind fun x11706 => some (x11699.2, x11699.1 == x11706)) else (some (s11646.1, false))).bind fun s11697 => (bif s11697.2 then ((set_Set_string_Len.fn s11697.1).bind fun x11729 => (bonsairef7_Sorted.fn fu p1).bind fun x11736 => some (x11729.1 == (x11736.length : Int))) else (some false)).bind fun s11727 => some s11727))
theorem bonsailaw7_SetTells_spec {K : KM} {fu : Nat} {p1 : (List ByteArray)} {p5 : (List Int)} {p9 : ByteArray} {p10 : Int} {r : Bool} {a2 : Option Addr} {c3 : Nat} {a6 : Option Addr} {c7 : Nat} (hf : bonsailaw7_SetTells.fn fu p1 p5 p9 p10 = some r) (h4 : SlK 9 K a2 c3 p1) (h8 : SlK 3 K a6 c7 p5) : Sp Try.prog 3 [(.slice a2 p1.length c3), (.slice a6 p5.length c7), (.string p9), (.int .i64 p10)] K [] (fun K' C v => v = (.bool r)) := by
  unfold bonsailaw7_SetTells.fn at hf
  refine spec_enter isf3 rfl ?_
  intro w L hS
  replace hS : Sat w K (flat [L]) := hS
  have hle := KM.le.refl K
  unfold bod3 Try.f3
  dsimp only [Option.getD_some, argSlots]
  refine s_seq (s_reg ?_)
  refine s_v rfl rfl rfl ?_
  refine s_nil (qn (s_seq (s_seq (s_reg ?_))))
  obtain ⟨x12, hx13, hf⟩ := bs hf
  refine s_call isf8 hS.nilG (bonsailaw7_known_spec hx13) rfl rfl rfl ?_
  rintro _ K14 C16 w hk15 rfl hS
  replace hS := hS.drop1
  refine s_v rfl rfl rfl ?_
  refine s_nil (qn ?_)
  refine s_if rfl (fun hc => ?_) (fun hc => ?_)
  · replace hf := bif_t hc hf
    refine s_seq (s_reg ?_)
    refine s_v rfl rfl rfl ?_
    refine s_nil (qn (s_rets (qrt ?_)))
    have hq := Option.some.inj hf
    subst hq
    refine s_ret1 rfl (rv_t rfl) ?_
    replace hle := hle.trans hk15
    exact ⟨K14, _, hle, rfl, Sat.nilG (hS.sel [0] rfl)⟩
  replace hf := bif_f hc hf
  refine s_skip (qn (s_seq (s_seq (s_reg ?_))))
  iterate 4 refine s_v rfl rfl rfl ?_
  obtain ⟨s20, hst21, hf⟩ := bs hf
  refine r_cut [_, _, _, _] (fun τ w => ∃ (K17 : KM), τ = [(0, (.slice a2 p1.length c3)), (1, (.slice a6 p5.length c7)), (2, (.string p9)), (3, (.int .i64 p10)), (26, (.bool s20))] ∧ KM.le K K17 ∧ SlK 9 K17 a2 c3 p1 ∧ SlK 3 K17 a6 c7 p5 ∧ Sat w K17 (flat [L])) rfl (fun J hJ => ?_) ?_
  · replace hf := hst21
    cases hc : (decide ((p1.length : Int) > 20))
    · replace hf := bif_f hc hf
      iterate 4 refine s_v rfl rfl rfl ?_
      have hq := Option.some.inj hf
      subst hq
      replace h4 := h4.mono hk15
      replace h8 := h8.mono hk15
      replace hle := hle.trans hk15
      refine r_join hJ _ ⟨K14, rfl, hle, h4, h8, hS⟩ ⟨rfl, rfl, rfl, rfl, rfl, trivial⟩
    replace hf := bif_t hc hf
    refine s_no rfl rfl ?_
    refine s_no rfl rfl ?_
    refine s_no rfl rfl ?_
    refine s_v rfl rfl rfl ?_
    have hq := Option.some.inj hf
    subst hq
    replace h4 := h4.mono hk15
    replace h8 := h8.mono hk15
    replace hle := hle.trans hk15
    refine r_join hJ _ ⟨K14, rfl, hle, h4, h8, hS⟩ ⟨rfl, rfl, rfl, rfl, rfl, trivial⟩
  rintro _ w ⟨K17, rfl, hle, h18, h19, hS⟩
  refine s_nil (qn ?_)
  refine s_if rfl (fun hc => ?_) (fun hc => ?_)
  · replace hf := bif_t hc hf
    refine s_seq (s_reg ?_)
    refine s_v rfl rfl rfl ?_
    refine s_nil (qn (s_rets (qrt ?_)))
    have hq := Option.some.inj hf
    subst hq
    refine s_ret1 rfl (rv_t rfl) ?_
    exact ⟨K17, _, hle, rfl, Sat.nilG (hS.sel [0] rfl)⟩
  replace hf := bif_f hc hf
  refine s_skip (qn (s_seq (s_reg ?_)))
  refine s_v rfl rfl rfl ?_
  obtain ⟨x22, hx23, hf⟩ := bs hf
  refine s_call isf9 hS.nilG (set_New_string_spec hx23 h18) rfl rfl rfl ?_
  rintro _ K24 C26 w hk25 ⟨b27, rfl, h28⟩ hS
  obtain ⟨x30, hx31, hf⟩ := bs hf
  refine s_call isf10 hS.nilG (set_New_int_spec hx31 SlK.nil) rfl rfl rfl ?_
  rintro _ K32 C34 w hk33 ⟨b35, rfl, h36⟩ hS
  iterate 2 refine s_v rfl rfl rfl ?_
  refine s_nil (qn (s_seq (s_reg ?_)))
  refine s_v rfl rfl rfl ?_
  refine s_nil (qn ?_)
  obtain ⟨res761, hst762, hm763⟩ := LR.then_some hf
  refine s_cut (fun τ w => ∃ (s760 : ((List Int) × (List Int))) (K747 : KM) (C750 : Chunks) (C753 : Chunks) (a756 : Option Addr) (c757 : Nat) (C758 : Chunks), res761 = .brk s760 ∧ τ = [(0, (.slice a2 p1.length c3)), (2, (.string p9)), (3, (.int .i64 p10)), (9, (.pointer (some ⟨b27, 0, none⟩))), (10, (.pointer (some ⟨b35, 0, none⟩))), (11, (.slice a756 s760.2.length c757))] ∧ KM.le K K747 ∧ SlK 9 K747 a2 c3 p1 ∧ SetO 59 K747 b27 x22 C750 ∧ SetO 62 K747 b35 s760.1 C753 ∧ OwnS 3 K747 (.slice a756 s760.2.length c757) s760.2 C758 ∧ Sat w K747 (flat [C750, C753, C758, L])) (fun J hJ => ?_) ?_
  · replace hf := hst762
    refine s_seq (s_reg ?_)
    refine s_v rfl rfl rfl ?_
    refine s_nil (qn (s_block ?_))
    replace hS := hS.nilG
    replace h18 := h18.mono (hk25.trans hk33)
    replace h19 := h19.mono (hk25.trans hk33)
    replace hle := hle.trans (hk25.trans hk33)
    replace h28 := h28.mono hk33
    refine s_loopp (fun n τ w => ∃ (v1240 : (List Int)) (v1241 : (List Int)) (v1242 : Int) (K1226 : KM) (C1230 : Chunks) (C1233 : Chunks) (a1236 : Option Addr) (c1237 : Nat) (C1238 : Chunks), bonsailaw7_SetTells.l0 fu p5 n v1240 v1241 v1242 = some res761 ∧ τ = [(0, (.slice a2 p1.length c3)), (1, (.slice a6 p5.length c7)), (2, (.string p9)), (3, (.int .i64 p10)), (9, (.pointer (some ⟨b27, 0, none⟩))), (10, (.pointer (some ⟨b35, 0, none⟩))), (11, (.slice a1236 v1241.length c1237)), (12, (.int .i64 v1242))] ∧ KM.le K K1226 ∧ SlK 9 K1226 a2 c3 p1 ∧ SlK 3 K1226 a6 c7 p5 ∧ SetO 59 K1226 b27 x22 C1230 ∧ SetO 62 K1226 b35 v1240 C1233 ∧ OwnS 3 K1226 (.slice a1236 v1241.length c1237) v1241 C1238 ∧ Sat w K1226 (flat [C1230, C1233, C1238, L])) _ ⟨x30, ([] : List Int), 0, K32, C26, C34, none, 0, [], hf, rfl, hle, h18, h19, h28, h36, OwnS.nil, (hS.sel [2, 1, 0, 3] rfl)⟩ ⟨rfl, rfl, rfl, rfl, rfl, rfl, rfl, rfl, trivial⟩ ?_ ?_
    · rintro _ _ ⟨_, _, _, _, _, _, _, _, _, hf, _⟩
      exact absurd hf (by simp [bonsailaw7_SetTells.l0])
    rintro n _ w Y hY ⟨v1240, v1241, v1242, K1226, C1230, C1233, a1236, c1237, C1238, hf, rfl, hle, h1227, h1228, h1229, h1232, h1235, hS⟩
    rw [bonsailaw7_SetTells.l0] at hf
    refine s_seq (s_seq (s_reg ?_))
    iterate 4 refine s_v rfl rfl rfl ?_
    refine s_nil (qn ?_)
    refine s_if rfl (fun hc => ?_) (fun hc => ?_)
    · replace hf := bif_t hc hf
      refine s_skip (qn ?_)
      obtain ⟨res1365, hst1366, hm1367⟩ := LR.then_some hf
      refine s_cut (fun τ w => ∃ (s1364 : ((List Int) × (List Int))) (K1350 : KM) (C1354 : Chunks) (C1357 : Chunks) (a1360 : Option Addr) (c1361 : Nat) (C1362 : Chunks), res1365 = .brk s1364 ∧ τ = [(0, (.slice a2 p1.length c3)), (1, (.slice a6 p5.length c7)), (2, (.string p9)), (3, (.int .i64 p10)), (9, (.pointer (some ⟨b27, 0, none⟩))), (10, (.pointer (some ⟨b35, 0, none⟩))), (11, (.slice a1360 s1364.2.length c1361)), (12, (.int .i64 v1242))] ∧ KM.le K K1350 ∧ SlK 9 K1350 a2 c3 p1 ∧ SlK 3 K1350 a6 c7 p5 ∧ SetO 59 K1350 b27 x22 C1354 ∧ SetO 62 K1350 b35 s1364.1 C1357 ∧ OwnS 3 K1350 (.slice a1360 s1364.2.length c1361) s1364.2 C1362 ∧ Sat w K1350 (flat [C1354, C1357, C1362, L])) (fun J hJ => ?_) ?_
      · replace hf := hst1366
        refine s_block (s_seq (s_reg ?_))
        iterate 2 refine s_v rfl rfl rfl ?_
        obtain ⟨x1368, hx1369, hf⟩ := bs hf
        refine s_ixk h1228 rfl hx1369 rfl rfl rfl rfl rfl rfl rfl ?_
        rintro b1370 o1371 _ rfl h1372
        refine s_ldk 0 hS h1372 rfl rfl rfl rfl ?_
        refine s_v rfl rfl rfl ?_
        refine s_nil (qn ?_)
        obtain ⟨s1387, hst1388, hf⟩ := bs hf
        refine s_cut (fun τ w => ∃ (K1373 : KM) (C1377 : Chunks) (C1380 : Chunks) (C1385 : Chunks), τ = [(0, (.slice a2 p1.length c3)), (1, (.slice a6 p5.length c7)), (2, (.string p9)), (3, (.int .i64 p10)), (9, (.pointer (some ⟨b27, 0, none⟩))), (10, (.pointer (some ⟨b35, 0, none⟩))), (11, (.slice a1236 v1241.length c1237)), (12, (.int .i64 v1242)), (13, (.int .i64 s1387))] ∧ KM.le K K1373 ∧ SlK 9 K1373 a2 c3 p1 ∧ SlK 3 K1373 a6 c7 p5 ∧ SetO 59 K1373 b27 x22 C1377 ∧ SetO 62 K1373 b35 v1240 C1380 ∧ OwnS 3 K1373 (.slice a1236 v1241.length c1237) v1241 C1385 ∧ Sat w K1373 (flat [C1377, C1380, C1385, L])) (fun J hJ => ?_) ?_
        · replace hf := hst1388
          refine s_seq (s_reg ?_)
          iterate 3 refine s_v rfl rfl rfl ?_
          refine s_nil (qn ?_)
          refine s_if rfl (fun hc => ?_) (fun hc => ?_)
          · replace hf := bif_t hc hf
            refine s_reg ?_
            iterate 3 refine s_v rfl rfl rfl ?_
            refine s_nil (qn ?_)
            have hq := Option.some.inj hf
            subst hq
            refine s_join hJ _ ⟨K1226, C1230, C1233, C1238, rfl, hle, h1227, h1228, h1229, h1232, h1235, hS⟩ ⟨rfl, rfl, rfl, rfl, rfl, rfl, rfl, rfl, rfl, trivial⟩
          replace hf := bif_f hc hf
          refine s_skip (qn ?_)
          have hq := Option.some.inj hf
          subst hq
          refine s_join hJ _ ⟨K1226, C1230, C1233, C1238, rfl, hle, h1227, h1228, h1229, h1232, h1235, hS⟩ ⟨rfl, rfl, rfl, rfl, rfl, rfl, rfl, rfl, rfl, trivial⟩
        rintro _ w ⟨K1373, C1377, C1380, C1385, rfl, hle, h1374, h1375, h1376, h1379, h1382, hS⟩
        refine s_seq (s_reg ?_)
        iterate 2 refine s_v rfl rfl rfl ?_
        obtain ⟨K1389, hk1390, h1391, hS, hth1392⟩ := OwnS.lend h1382 (hS.sel [2, 0, 1, 3] rfl)
        replace hS : Sat w _ (flat [_, _, _]) := hS
        obtain ⟨x1393, hx1394, hf⟩ := bs hf
        refine s_call isf11 hS.nilG (bonsailaw7_has_spec hx1394 h1391) rfl rfl rfl ?_
        rintro _ K1395 C1397 w hk1396 rfl hS
        replace hS := hS.drop1
        obtain ⟨K1398, hk1399, hS⟩ := hth1392 _ _ _ hk1396 hS
        refine s_v rfl rfl rfl ?_
        refine s_nil (qn (s_seq (s_seq (s_reg ?_))))
        iterate 2 refine s_v rfl rfl rfl ?_
        obtain ⟨x1400, hx1401, hf⟩ := bs hf
        replace h1379 := h1379.mono hk1399
        refine s_call isf12 (Sat.shut1 (hS.sel [2, 0, 1, 3] rfl)) (set_Set_int_Has_spec hx1401 h1379) rfl rfl rfl ?_
        rintro _ K1402 C1404 w hk1403 ⟨rfl, h1405⟩ hS
        iterate 3 refine s_v rfl rfl rfl ?_
        obtain ⟨s1428, hst1429, hf⟩ := bs hf
        refine r_cut [_, _, _, _, _, _] (fun τ w => ∃ (K1414 : KM) (C1418 : Chunks) (C1421 : Chunks) (C1426 : Chunks), τ = [(0, (.slice a2 p1.length c3)), (1, (.slice a6 p5.length c7)), (2, (.string p9)), (3, (.int .i64 p10)), (9, (.pointer (some ⟨b27, 0, none⟩))), (10, (.pointer (some ⟨b35, 0, none⟩))), (11, (.slice a1236 v1241.length c1237)), (12, (.int .i64 v1242)), (13, (.int .i64 s1387)), (14, (.bool x1393)), (59, (.bool s1428.2))] ∧ KM.le K K1414 ∧ SlK 9 K1414 a2 c3 p1 ∧ SlK 3 K1414 a6 c7 p5 ∧ SetO 59 K1414 b27 x22 C1418 ∧ SetO 62 K1414 b35 s1428.1 C1421 ∧ OwnS 3 K1414 (.slice a1236 v1241.length c1237) v1241 C1426 ∧ Sat w K1414 (flat [C1418, C1421, C1426, L])) rfl (fun J hJ => ?_) ?_
        · replace hf := hst1429
          cases hc : (!(x1400.1 == x1393))
          · replace hf := bif_f hc hf
            iterate 2 refine s_v rfl rfl rfl ?_
            obtain ⟨x1430, hx1431, hf⟩ := bs hf
            refine s_call isf13 (Sat.shut1 hS) (set_Set_int_Add_spec hx1431 h1405) rfl rfl rfl ?_
            rintro _ K1432 C1434 w hk1433 ⟨rfl, h1435⟩ hS
            iterate 3 refine s_v rfl rfl rfl ?_
            have hq := Option.some.inj hf
            subst hq
            replace h1374 := h1374.mono ((hk1399.trans hk1403).trans hk1433)
            replace h1375 := h1375.mono ((hk1399.trans hk1403).trans hk1433)
            replace h1376 := h1376.mono ((hk1399.trans hk1403).trans hk1433)
            replace h1382 := h1382.mono ((hk1399.trans hk1403).trans hk1433)
            replace hle := hle.trans ((hk1399.trans hk1403).trans hk1433)
            refine r_join hJ _ ⟨K1432, C1377, C1434, C1385, rfl, hle, h1374, h1375, h1376, h1435, h1382, (hS.sel [2, 0, 1, 3] rfl)⟩ ⟨rfl, rfl, rfl, rfl, rfl, rfl, rfl, rfl, rfl, rfl, rfl, trivial⟩
          replace hf := bif_t hc hf
          refine s_no rfl rfl ?_
          refine s_no rfl rfl ?_
          refine s_no rfl rfl ?_
          refine s_no rfl rfl ?_
          refine s_no rfl rfl ?_
          refine s_v rfl rfl rfl ?_
          have hq := Option.some.inj hf
          subst hq
          replace h1374 := h1374.mono (hk1399.trans hk1403)
          replace h1375 := h1375.mono (hk1399.trans hk1403)
          replace h1376 := h1376.mono (hk1399.trans hk1403)
          replace h1382 := h1382.mono (hk1399.trans hk1403)
          replace hle := hle.trans (hk1399.trans hk1403)
          refine r_join hJ _ ⟨K1402, C1377, C1404, C1385, rfl, hle, h1374, h1375, h1376, h1405, h1382, (hS.sel [2, 0, 1, 3] rfl)⟩ ⟨rfl, rfl, rfl, rfl, rfl, rfl, rfl, rfl, rfl, rfl, rfl, trivial⟩
        rintro _ w ⟨K1414, C1418, C1421, C1426, rfl, hle, h1415, h1416, h1417, h1420, h1423, hS⟩
        refine s_v rfl rfl rfl ?_
        obtain ⟨s1458, hst1459, hf⟩ := bs hf
        refine r_cut [_, _, _, _, _] (fun τ w => ∃ (K1444 : KM) (C1448 : Chunks) (C1451 : Chunks) (C1456 : Chunks), τ = [(0, (.slice a2 p1.length c3)), (1, (.slice a6 p5.length c7)), (2, (.string p9)), (3, (.int .i64 p10)), (9, (.pointer (some ⟨b27, 0, none⟩))), (10, (.pointer (some ⟨b35, 0, none⟩))), (11, (.slice a1236 v1241.length c1237)), (12, (.int .i64 v1242)), (13, (.int .i64 s1387)), (14, (.bool x1393)), (65, (.bool s1458.2))] ∧ KM.le K K1444 ∧ SlK 9 K1444 a2 c3 p1 ∧ SlK 3 K1444 a6 c7 p5 ∧ SetO 59 K1444 b27 x22 C1448 ∧ SetO 62 K1444 b35 s1458.1 C1451 ∧ OwnS 3 K1444 (.slice a1236 v1241.length c1237) v1241 C1456 ∧ Sat w K1444 (flat [C1448, C1451, C1456, L])) rfl (fun J hJ => ?_) ?_
        · replace hf := hst1459
          cases hc : s1428.2
          · replace hf := bif_f hc hf
            iterate 2 refine s_v rfl rfl rfl ?_
            obtain ⟨x1460, hx1461, hf⟩ := bs hf
            refine s_call isf12 (Sat.shut1 (hS.sel [1, 0, 2, 3] rfl)) (set_Set_int_Has_spec hx1461 h1420) rfl rfl rfl ?_
            rintro _ K1462 C1464 w hk1463 ⟨rfl, h1465⟩ hS
            iterate 2 refine s_v rfl rfl rfl ?_
            have hq := Option.some.inj hf
            subst hq
            replace h1415 := h1415.mono hk1463
            replace h1416 := h1416.mono hk1463
            replace h1417 := h1417.mono hk1463
            replace h1423 := h1423.mono hk1463
            replace hle := hle.trans hk1463
            refine r_join hJ _ ⟨K1462, C1418, C1464, C1426, rfl, hle, h1415, h1416, h1417, h1465, h1423, (hS.sel [1, 0, 2, 3] rfl)⟩ ⟨rfl, rfl, rfl, rfl, rfl, rfl, rfl, rfl, rfl, rfl, rfl, trivial⟩
          replace hf := bif_t hc hf
          refine s_no rfl rfl ?_
          refine s_no rfl rfl ?_
          refine s_no rfl rfl ?_
          refine s_no rfl rfl ?_
          refine s_v rfl rfl rfl ?_
          have hq := Option.some.inj hf
          subst hq
          refine r_join hJ _ ⟨K1414, C1418, C1421, C1426, rfl, hle, h1415, h1416, h1417, h1420, h1423, hS⟩ ⟨rfl, rfl, rfl, rfl, rfl, rfl, rfl, rfl, rfl, rfl, rfl, trivial⟩
        rintro _ w ⟨K1444, C1448, C1451, C1456, rfl, hle, h1445, h1446, h1447, h1450, h1453, hS⟩
        refine s_nil (qn ?_)
        refine s_if rfl (fun hc => ?_) (fun hc => ?_)
        · replace hf := bif_t hc hf
          refine s_seq (s_reg ?_)
          refine s_v rfl rfl rfl ?_
          refine s_nil (qn ?_)
          replace hS : Sat w K1444 (flat [_]) := (hS.sel [3] rfl)
          refine s_rets (qrt (qrb (qrt ?_)))
          replace hf := LR.esc_some hf hm1367
          refine qrt (qrb (qrt ?_))
          replace hf := LR.esc_some hf hm763
          have hq := Option.some.inj hf
          subst hq
          refine s_ret1 rfl (rv_t rfl) ?_
          exact ⟨K1444, _, hle, rfl, Sat.nilG (hS.sel [0] rfl)⟩
        replace hf := bif_f hc hf
        refine s_skip (qn (s_seq (s_reg ?_)))
        iterate 2 refine s_v rfl rfl rfl ?_
        refine s_nil (qn ?_)
        refine s_if rfl (fun hc => ?_) (fun hc => ?_)
        · replace hf := bif_t hc hf
          refine s_reg ?_
          iterate 2 refine s_v rfl rfl rfl ?_
          refine s_bwc (cs := [(.int .i64 s1387)]) hS rfl rfl rfl rfl rfl rfl rfl rfl rfl rfl ?_
          intro b1467 w hS
          obtain ⟨hm1469, hf⟩ := gs hf
          refine s_appv (e := 3) (ys := ([s1387] : List Int)) 3 0 hS rfl h1453 rfl ⟨[(.int .i64 s1387)], _, rfl, rfl, rfl⟩ rfl rfl rfl rfl rfl rfl rfl rfl (roomy_le hm1469) rfl rfl rfl ?_
          intro a1470 c1471 w C1472 h1473 hS
          replace hS : Sat w _ (flat [_, _, _, _, _]) := hS
          refine s_v rfl rfl rfl ?_
          refine s_nil (qbn (qn ?_))
          have hq := Option.some.inj hf
          subst hq
          refine s_join hJ _ ⟨(s1458.1, (v1241 ++ ([s1387] : List Int))), K1444, C1448, C1451, a1470, c1471, C1472, rfl, rfl, hle, h1445, h1446, h1447, h1450, h1473, (hS.sel [1, 2, 3, 4] rfl)⟩ ⟨rfl, rfl, rfl, rfl, rfl, rfl, rfl, rfl, trivial⟩
        replace hf := bif_f hc hf
        refine s_skip (qbn (qn ?_))
        have hq := Option.some.inj hf
        subst hq
        refine s_join hJ _ ⟨(s1458.1, v1241), K1444, C1448, C1451, a1236, c1237, C1456, rfl, rfl, hle, h1445, h1446, h1447, h1450, h1453, hS⟩ ⟨rfl, rfl, rfl, rfl, rfl, rfl, rfl, rfl, trivial⟩
      rintro _ w ⟨s1364, K1350, C1354, C1357, a1360, c1361, C1362, rfl, rfl, hle, h1351, h1352, h1353, h1356, h1359, hS⟩
      replace hf := LR.elim_brk hm1367
      refine s_reg ?_
      iterate 3 refine s_v rfl rfl rfl ?_
      refine s_nil (qn ?_)
      refine s_join hY _ ⟨s1364.1, s1364.2, w64 (v1242 + 1), K1350, C1354, C1357, a1360, c1361, C1362, hf, rfl, hle, h1351, h1352, h1353, h1356, h1359, hS⟩ ⟨rfl, rfl, rfl, rfl, rfl, rfl, rfl, rfl, trivial⟩
    replace hf := bif_f hc hf
    refine s_exit (qxt (qxt (qxb (qn ?_))))
    have hq := Option.some.inj hf
    subst hq
    refine s_join hJ _ ⟨(v1240, v1241), K1226, C1230, C1233, a1236, c1237, C1238, rfl, rfl, hle, h1227, h1229, h1232, h1235, hS⟩ ⟨rfl, rfl, rfl, rfl, rfl, rfl, trivial⟩
  rintro _ w ⟨s760, K747, C750, C753, a756, c757, C758, rfl, rfl, hle, h748, h749, h752, h755, hS⟩
  replace hf := LR.elim_brk hm763
  obtain ⟨s6496, hst6497, hf⟩ := bs hf
  refine s_cut (fun τ w => ∃ (K6483 : KM) (C6486 : Chunks) (C6489 : Chunks) (C6494 : Chunks), τ = [(0, (.slice a2 p1.length c3)), (2, (.string p9)), (3, (.int .i64 p10)), (9, (.pointer (some ⟨b27, 0, none⟩))), (10, (.pointer (some ⟨b35, 0, none⟩))), (11, (.slice a756 s6496.length c757))] ∧ KM.le K K6483 ∧ SlK 9 K6483 a2 c3 p1 ∧ SetO 59 K6483 b27 x22 C6486 ∧ SetO 62 K6483 b35 s760.1 C6489 ∧ OwnS 3 K6483 (.slice a756 s6496.length c757) s6496 C6494 ∧ Sat w K6483 (flat [C6486, C6489, C6494, L])) (fun J hJ => ?_) ?_
  · replace hf := hst6497
    refine s_seq (s_reg ?_)
    refine s_v rfl rfl rfl ?_
    refine s_nil (qn (s_block ?_))
    refine s_loopp (fun n τ w => ∃ (v9854 : (List Int)) (v9855 : Int) (K9841 : KM) (C9844 : Chunks) (C9847 : Chunks) (C9852 : Chunks), bonsailaw7_SetTells.l1 fu n v9854 v9855 = some s6496 ∧ τ = [(0, (.slice a2 p1.length c3)), (2, (.string p9)), (3, (.int .i64 p10)), (9, (.pointer (some ⟨b27, 0, none⟩))), (10, (.pointer (some ⟨b35, 0, none⟩))), (11, (.slice a756 v9854.length c757)), (15, (.int .i64 v9855))] ∧ KM.le K K9841 ∧ SlK 9 K9841 a2 c3 p1 ∧ SetO 59 K9841 b27 x22 C9844 ∧ SetO 62 K9841 b35 s760.1 C9847 ∧ OwnS 3 K9841 (.slice a756 v9854.length c757) v9854 C9852 ∧ Sat w K9841 (flat [C9844, C9847, C9852, L])) _ ⟨s760.2, 1, K747, C750, C753, C758, hf, rfl, hle, h748, h749, h752, h755, hS⟩ ⟨rfl, rfl, rfl, rfl, rfl, rfl, rfl, trivial⟩ ?_ ?_
    · rintro _ _ ⟨_, _, _, _, _, _, hf, _⟩
      exact absurd hf (by simp [bonsailaw7_SetTells.l1])
    rintro n _ w Y hY ⟨v9854, v9855, K9841, C9844, C9847, C9852, hf, rfl, hle, h9842, h9843, h9846, h9849, hS⟩
    rw [bonsailaw7_SetTells.l1] at hf
    refine s_seq (s_seq (s_reg ?_))
    iterate 4 refine s_v rfl rfl rfl ?_
    refine s_nil (qn ?_)
    refine s_if rfl (fun hc => ?_) (fun hc => ?_)
    · replace hf := bif_t hc hf
      refine s_skip (qn ?_)
      obtain ⟨s10687, hst10688, hf⟩ := bs hf
      refine s_cut (fun τ w => ∃ (K10674 : KM) (C10677 : Chunks) (C10680 : Chunks) (C10685 : Chunks), τ = [(0, (.slice a2 p1.length c3)), (2, (.string p9)), (3, (.int .i64 p10)), (9, (.pointer (some ⟨b27, 0, none⟩))), (10, (.pointer (some ⟨b35, 0, none⟩))), (11, (.slice a756 s10687.length c757)), (15, (.int .i64 v9855))] ∧ KM.le K K10674 ∧ SlK 9 K10674 a2 c3 p1 ∧ SetO 59 K10674 b27 x22 C10677 ∧ SetO 62 K10674 b35 s760.1 C10680 ∧ OwnS 3 K10674 (.slice a756 s10687.length c757) s10687 C10685 ∧ Sat w K10674 (flat [C10677, C10680, C10685, L])) (fun J hJ => ?_) ?_
      · replace hf := hst10688
        refine s_block (s_seq (s_reg ?_))
        iterate 2 refine s_v rfl rfl rfl ?_
        refine s_nil (qn (s_block ?_))
        refine s_loopp (fun n τ w => ∃ (v11251 : (List Int)) (v11252 : Int) (K11238 : KM) (C11241 : Chunks) (C11244 : Chunks) (C11249 : Chunks), bonsailaw7_SetTells.l2 fu n v11251 v11252 = some s10687 ∧ τ = [(0, (.slice a2 p1.length c3)), (2, (.string p9)), (3, (.int .i64 p10)), (9, (.pointer (some ⟨b27, 0, none⟩))), (10, (.pointer (some ⟨b35, 0, none⟩))), (11, (.slice a756 v11251.length c757)), (15, (.int .i64 v9855)), (16, (.int .i64 v11252))] ∧ KM.le K K11238 ∧ SlK 9 K11238 a2 c3 p1 ∧ SetO 59 K11238 b27 x22 C11241 ∧ SetO 62 K11238 b35 s760.1 C11244 ∧ OwnS 3 K11238 (.slice a756 v11251.length c757) v11251 C11249 ∧ Sat w K11238 (flat [C11241, C11244, C11249, L])) _ ⟨v9854, v9855, K9841, C9844, C9847, C9852, hf, rfl, hle, h9842, h9843, h9846, h9849, hS⟩ ⟨rfl, rfl, rfl, rfl, rfl, rfl, rfl, rfl, trivial⟩ ?_ ?_
        · rintro _ _ ⟨_, _, _, _, _, _, hf, _⟩
          exact absurd hf (by simp [bonsailaw7_SetTells.l2])
        rintro n _ w Y hY ⟨v11251, v11252, K11238, C11241, C11244, C11249, hf, rfl, hle, h11239, h11240, h11243, h11246, hS⟩
        rw [bonsailaw7_SetTells.l2] at hf
        refine s_seq ?_
        obtain ⟨s11323, hst11324, hf⟩ := bs hf
        refine s_cut (fun τ w => ∃ (K11310 : KM) (C11313 : Chunks) (C11316 : Chunks) (C11321 : Chunks), τ = [(0, (.slice a2 p1.length c3)), (2, (.string p9)), (3, (.int .i64 p10)), (9, (.pointer (some ⟨b27, 0, none⟩))), (10, (.pointer (some ⟨b35, 0, none⟩))), (11, (.slice a756 v11251.length c757)), (15, (.int .i64 v9855)), (16, (.int .i64 v11252)), (92, (.bool s11323))] ∧ KM.le K K11310 ∧ SlK 9 K11310 a2 c3 p1 ∧ SetO 59 K11310 b27 x22 C11313 ∧ SetO 62 K11310 b35 s760.1 C11316 ∧ OwnS 3 K11310 (.slice a756 v11251.length c757) v11251 C11321 ∧ Sat w K11310 (flat [C11313, C11316, C11321, L])) (fun J hJ => ?_) ?_
        · replace hf := hst11324
          refine d_start [2] [] hS ?_
          intro w hS
          refine d_v 0 (fun _ _ _ _ _ h => h) [2] hS rfl rfl rfl (by kernel_rfl) rfl rfl ?_
          refine d_v 1 (fun _ _ _ _ _ h => h) [2] hS rfl rfl rfl (by kernel_rfl) rfl rfl ?_
          refine d_v 2 (fun _ _ _ _ _ h => h) [2] hS rfl rfl rfl (by kernel_rfl) rfl rfl ?_
          cases hc : (decide (v11252 > 0))
          · replace hf := bif_f hc hf
            refine d_no 3 (fun _ _ _ _ _ h => h) [2] hS rfl rfl (by kernel_rfl) rfl rfl ?_
            refine d_no 4 (fun _ _ _ _ _ h => h) [2] hS rfl rfl (by kernel_rfl) rfl rfl ?_
            refine d_no 5 (fun _ _ _ _ _ h => h) [2] hS rfl rfl (by kernel_rfl) rfl rfl ?_
            refine d_no 6 (fun _ _ _ _ _ h => h) [2] hS rfl rfl (by kernel_rfl) rfl rfl ?_
            refine d_no 7 (fun _ _ _ _ _ h => h) [2] hS rfl rfl (by kernel_rfl) rfl rfl ?_
            refine d_no 8 (fun _ _ _ _ _ h => h) [2] hS rfl rfl (by kernel_rfl) rfl rfl ?_
            refine d_no 9 (fun _ _ _ _ _ h => h) [2] hS rfl rfl (by kernel_rfl) rfl rfl ?_
            refine d_no 10 (fun _ _ _ _ _ h => h) [2] hS rfl rfl (by kernel_rfl) rfl rfl ?_
            refine d_no 11 (fun _ _ _ _ _ h => h) [2] hS rfl rfl (by kernel_rfl) rfl rfl ?_
            refine d_no 12 (fun _ _ _ _ _ h => h) [2] hS rfl rfl (by kernel_rfl) rfl rfl ?_
            refine d_v 13 (fun _ _ _ _ _ h => h) [2] hS rfl rfl rfl (by kernel_rfl) rfl rfl ?_
            refine d_end (by kernel_rfl) ?_
            refine qn ?_
            have hq := Option.some.inj hf
            subst hq
            refine s_join hJ _ ⟨K11238, C11241, C11244, C11249, rfl, hle, h11239, h11240, h11243, h11246, hS⟩ ⟨rfl, rfl, rfl, rfl, rfl, rfl, rfl, rfl, rfl, trivial⟩
          replace hf := bif_t hc hf
          refine d_v 3 (fun _ _ _ _ _ h => h) [2] hS rfl rfl rfl (by kernel_rfl) rfl rfl ?_
          refine d_v 4 (fun _ _ _ _ _ h => h) [2] hS rfl rfl rfl (by kernel_rfl) rfl rfl ?_
          obtain ⟨x11363, hx11364, hf⟩ := bs hf
          refine d_ixo 5 2 (fun _ _ _ _ _ h => h) [2] hS rfl h11246 hx11364 rfl rfl rfl rfl rfl rfl rfl (by kernel_rfl) rfl rfl ?_
          intro b11365 l11366 cs11369 l11367 hcs_ hC11370 hun11368
          obtain rfl := hcs_
          subst hC11370
          have hq11371 := KM.le.refl K11238
          refine d_ldm 6 0 0 (fun _ _ _ _ _ h => h) [2] hS rfl rfl rfl rfl rfl (by kernel_rfl) rfl rfl ?_
          refine d_v 7 (fun _ _ _ _ _ h => h) [2] hS rfl rfl rfl (by kernel_rfl) rfl rfl ?_
          refine d_v 8 (fun _ _ _ _ _ h => h) [2] hS rfl rfl rfl (by kernel_rfl) rfl rfl ?_
          refine d_v 9 (fun _ _ _ _ _ h => h) [2] hS rfl rfl rfl (by kernel_rfl) rfl rfl ?_
          generalize hCg_ : ([(b11365, Cl (l11366 ++ (([(.int .i64 x11363)] : List Value) ++ l11367)) 3)] : Chunks) = C11372 at hS h11246 ⊢
          clear hCg_
          obtain ⟨x11373, hx11374, hf⟩ := bs hf
          refine d_ixo 10 2 (fun _ _ _ _ _ h => h) [2] hS rfl h11246 hx11374 rfl rfl rfl rfl rfl rfl rfl (by kernel_rfl) rfl rfl ?_
          intro b11375 l11376 cs11379 l11377 hcs_ hC11380 hun11378
          obtain rfl := hcs_
          subst hC11380
          have hq11381 := KM.le.refl K11238
          refine d_ldm 11 0 0 (fun _ _ _ _ _ h => h) [2] hS rfl rfl rfl rfl rfl (by kernel_rfl) rfl rfl ?_
          refine d_v 12 (fun _ _ _ _ _ h => h) [2] hS rfl rfl rfl (by kernel_rfl) rfl rfl ?_
          refine d_v 13 (fun _ _ _ _ _ h => h) [2] hS rfl rfl rfl (by kernel_rfl) rfl rfl ?_
          refine d_end (by kernel_rfl) ?_
          refine qn ?_
          have hq := Option.some.inj hf
          subst hq
          refine s_join hJ _ ⟨K11238, C11241, C11244, [(b11375, Cl (l11376 ++ (([(.int .i64 x11373)] : List Value) ++ l11377)) 3)], rfl, hle, h11239, h11240, h11243, h11246, hS⟩ ⟨rfl, rfl, rfl, rfl, rfl, rfl, rfl, rfl, rfl, trivial⟩
        rintro _ w ⟨K11310, C11313, C11316, C11321, rfl, hle, h11311, h11312, h11315, h11318, hS⟩
        refine s_if rfl (fun hc => ?_) (fun hc => ?_)
        · replace hf := bif_t hc hf
          refine s_skip (qn (s_seq (s_block ?_)))
          refine d_start [] [(15, [2])] hS ?_
          intro w hS
          refine d_v 0 (fun _ _ _ _ _ h => h) [] hS rfl rfl rfl (by kernel_rfl) rfl rfl ?_
          refine d_v 1 (fun _ _ _ _ _ h => h) [] hS rfl rfl rfl (by kernel_rfl) rfl rfl ?_
          refine d_v 2 (fun _ _ _ _ _ h => h) [] hS rfl rfl rfl (by kernel_rfl) rfl rfl ?_
          refine d_v 3 (fun _ _ _ _ _ h => h) [] hS rfl rfl rfl (by kernel_rfl) rfl rfl ?_
          refine d_v 4 (fun _ _ _ _ _ h => h) [] hS rfl rfl rfl (by kernel_rfl) rfl rfl ?_
          refine d_v 5 (fun _ _ _ _ _ h => h) [] hS rfl rfl rfl (by kernel_rfl) rfl rfl ?_
          refine d_v 6 (fun _ _ _ _ _ h => h) [] hS rfl rfl rfl (by kernel_rfl) rfl rfl ?_
          refine d_v 7 (fun _ _ _ _ _ h => h) [] hS rfl rfl rfl (by kernel_rfl) rfl rfl ?_
          obtain ⟨x11464, hx11465, hf⟩ := bs hf
          refine d_ixo 8 2 (fun _ _ _ _ _ h => h) [] hS rfl h11318 hx11465 rfl rfl rfl rfl rfl rfl rfl (by kernel_rfl) rfl rfl ?_
          intro b11466 l11467 cs11470 l11468 hcs_ hC11471 hun11469
          obtain rfl := hcs_
          subst hC11471
          have hq11472 := KM.le.refl K11310
          refine d_ldmh 9 0 0 (fun _ _ _ _ _ h => h) [] hS rfl rfl rfl (by kernel_rfl) rfl rfl (by kernel_rfl) rfl rfl ?_
          refine d_v 10 (fun _ _ _ _ _ h => h) [] hS rfl rfl rfl (by kernel_rfl) rfl rfl ?_
          refine d_v 11 (fun _ _ _ _ _ h => h) [] hS rfl rfl rfl (by kernel_rfl) rfl rfl ?_
          generalize hCg_ : ([(b11466, Cl (l11467 ++ (([(.int .i64 x11464)] : List Value) ++ l11468)) 3)] : Chunks) = C11473 at hS h11318 ⊢
          clear hCg_
          obtain ⟨x11474, hx11475, hf⟩ := bs hf
          refine d_ixo 12 2 (fun _ _ _ _ _ h => h) [] hS rfl h11318 hx11475 rfl rfl rfl rfl rfl rfl rfl (by kernel_rfl) rfl rfl ?_
          intro b11476 l11477 cs11480 l11478 hcs_ hC11481 hun11479
          obtain rfl := hcs_
          subst hC11481
          have hq11482 := KM.le.refl K11310
          refine d_ldmh 13 0 0 (fun _ _ _ _ _ h => h) [] hS rfl rfl rfl (by kernel_rfl) rfl rfl (by kernel_rfl) rfl rfl ?_
          generalize hCg_ : ([(b11476, Cl (l11477 ++ (([(.int .i64 x11474)] : List Value) ++ l11478)) 3)] : Chunks) = C11483 at hS h11318 ⊢
          clear hCg_
          obtain ⟨x11484, hx11485, hf⟩ := bs hf
          refine d_ixo 14 2 (fun _ _ _ _ _ h => h) [] hS rfl h11318 hx11485 rfl rfl rfl rfl rfl rfl rfl (by kernel_rfl) rfl rfl ?_
          intro b11486 l11487 cs11490 l11488 hcs_ hC11491 hun11489
          obtain rfl := hcs_
          subst hC11491
          have hq11492 := KM.le.refl K11310
          refine d_op 15 rfl (by kernel_rfl) (by kernel_rfl) (fun X hX => ?_)
          have hlq := KM.le.refl K11310
          refine s_stm (cs' := [(.int .i64 x11464)]) 2 0 hS rfl rfl rfl rfl rfl ?_
          intro w hS
          replace hS : Sat w _ (flat [_, _, _, _]) := hS
          have h11493 := hun11489 K11310 _ _ hq11492 (show GoData.cells 3 _ x11464 _ from rfl)
          have hl11494 := OwnS.len h11493
          refine d_go [] [] [(17, [2])] [none] hX hS hlq rfl rfl ⟨rfl, trivial⟩ ?_
          generalize hCg_ : ([(b11486, Cl (l11487 ++ (([(.int .i64 x11464)] : List Value) ++ l11488)) 3)] : Chunks) = C11495 at hS h11493 ⊢
          clear hCg_
          obtain ⟨x11496, hx11497, hf⟩ := bs hf
          refine d_ixo 16 2 (fun _ _ _ _ _ h => h) [] hS rfl h11493 hx11497 rfl rfl rfl rfl rfl rfl rfl (by kernel_rfl) rfl rfl ?_
          intro b11498 l11499 cs11502 l11500 hcs_ hC11503 hun11501
          obtain rfl := hcs_
          subst hC11503
          have hq11504 := KM.le.refl K11310
          refine d_op 17 rfl (by kernel_rfl) (by kernel_rfl) (fun X hX => ?_)
          have hlq := KM.le.refl K11310
          refine s_stm (cs' := [(.int .i64 x11474)]) 2 0 hS rfl rfl rfl rfl rfl ?_
          intro w hS
          replace hS : Sat w _ (flat [_, _, _, _]) := hS
          have h11505 := hun11501 K11310 _ _ hq11504 (show GoData.cells 3 _ x11474 _ from rfl)
          have hl11506 := OwnS.len h11505
          refine d_go [] [2] [] [none] hX hS hlq rfl rfl ⟨rfl, trivial⟩ ?_
          refine d_end (by kernel_rfl) ?_
          refine qbn (qn (s_reg ?_))
          iterate 3 refine s_v rfl rfl rfl ?_
          refine s_nil (qn ?_)
          refine s_join hY _ ⟨((v11251.set (v11252 : Int).toNat x11464).set (w64 (v11252 - 1) : Int).toNat x11474), w64 (v11252 - 1), K11310, C11313, C11316, [(b11498, Cl (l11499 ++ (([(.int .i64 x11474)] : List Value) ++ l11500)) 3)], hf, rfl, hle, h11311, h11312, h11315, (OwnS.norm h11505), (by (try rw [hl11506]); exact hS)⟩ ⟨rfl, rfl, rfl, rfl, rfl, (by rw [hl11506]; rfl), rfl, rfl, trivial⟩
        replace hf := bif_f hc hf
        refine s_exit (qxt (qxt (qxb (qbn (qn ?_)))))
        have hq := Option.some.inj hf
        subst hq
        refine s_join hJ _ ⟨K11310, C11313, C11316, C11321, rfl, hle, h11311, h11312, h11315, h11318, hS⟩ ⟨rfl, rfl, rfl, rfl, rfl, rfl, rfl, trivial⟩
      rintro _ w ⟨K10674, C10677, C10680, C10685, rfl, hle, h10675, h10676, h10679, h10682, hS⟩
      refine s_reg ?_
      iterate 3 refine s_v rfl rfl rfl ?_
      refine s_nil (qn ?_)
      refine s_join hY _ ⟨s10687, w64 (v9855 + 1), K10674, C10677, C10680, C10685, hf, rfl, hle, h10675, h10676, h10679, h10682, hS⟩ ⟨rfl, rfl, rfl, rfl, rfl, rfl, rfl, trivial⟩
    replace hf := bif_f hc hf
    refine s_exit (qxt (qxt (qxb (qn ?_))))
    have hq := Option.some.inj hf
    subst hq
    refine s_join hJ _ ⟨K9841, C9844, C9847, C9852, rfl, hle, h9842, h9843, h9846, h9849, hS⟩ ⟨rfl, rfl, rfl, rfl, rfl, rfl, trivial⟩
  rintro _ w ⟨K6483, C6486, C6489, C6494, rfl, hle, h6484, h6485, h6488, h6491, hS⟩
  refine s_seq (s_reg ?_)
  refine s_v rfl rfl rfl ?_
  obtain ⟨x11507, hx11508, hf⟩ := bs hf
  refine s_call isf15 (Sat.shut1 (hS.sel [1, 0, 2, 3] rfl)) (set_Set_int_List_spec hx11508 h6488) rfl rfl rfl ?_
  rintro _ K11509 _ w hk11510 ⟨a11512, c11513, C11516, C11517, rfl, h11514, h11515, rfl⟩ hS
  replace hS := hS.open2
  refine s_v rfl rfl rfl ?_
  obtain ⟨K11520, hk11521, h11522, hS, hth11523⟩ := OwnS.lend h11514 (hS.sel [0, 1, 2, 3, 4] rfl)
  replace hS : Sat w _ (flat [_, _, _, _]) := hS
  replace h6491 := h6491.mono hk11510
  obtain ⟨K11524, hk11525, h11526, hS, hth11527⟩ := OwnS.lend (h6491.mono hk11521) (hS.sel [2, 0, 1, 3] rfl)
  replace hS : Sat w _ (flat [_, _, _]) := hS
  obtain ⟨x11528, hx11529, hf⟩ := bs hf
  refine s_call isf14 hS.nilG (bonsaihelp_Ints_spec hx11529 (h11522.mono hk11525) h11526) rfl rfl rfl ?_
  rintro _ K11530 C11532 w hk11531 rfl hS
  replace hS := hS.drop1
  obtain ⟨K11533, hk11534, hS⟩ := hth11527 _ _ _ hk11531 hS
  obtain ⟨K11535, hk11536, hS⟩ := hth11523 _ _ _ hk11534 hS
  refine s_v rfl rfl rfl ?_
  obtain ⟨s11557, hst11558, hf⟩ := bs hf
  refine r_cut [_, _, _, _, _, _] (fun τ w => ∃ (K11544 : KM) (C11547 : Chunks) (C11550 : Chunks) (C11555 : Chunks), τ = [(0, (.slice a2 p1.length c3)), (2, (.string p9)), (3, (.int .i64 p10)), (9, (.pointer (some ⟨b27, 0, none⟩))), (10, (.pointer (some ⟨b35, 0, none⟩))), (11, (.slice a756 s6496.length c757)), (121, (.bool s11557.2))] ∧ KM.le K K11544 ∧ SlK 9 K11544 a2 c3 p1 ∧ SetO 59 K11544 b27 x22 C11547 ∧ SetO 62 K11544 b35 s11557.1 C11550 ∧ OwnS 3 K11544 (.slice a756 s6496.length c757) s6496 C11555 ∧ Sat w K11544 (flat [C11547, C11550, C11555, L])) rfl (fun J hJ => ?_) ?_
  · replace hf := hst11558
    cases hc : x11528
    · replace hf := bif_f hc hf
      refine s_no rfl rfl ?_
      refine s_no rfl rfl ?_
      refine s_no rfl rfl ?_
      refine s_no rfl rfl ?_
      refine s_no rfl rfl ?_
      refine s_v rfl rfl rfl ?_
      have hq := Option.some.inj hf
      subst hq
      replace h6484 := h6484.mono (hk11510.trans hk11536)
      replace h6485 := h6485.mono (hk11510.trans hk11536)
      replace hle := hle.trans (hk11510.trans hk11536)
      replace h11515 := h11515.mono hk11536
      replace h6491 := h6491.mono hk11536
      refine r_join hJ _ ⟨K11535, C6486, C11517, C6494, rfl, hle, h6484, h6485, h11515, h6491, (hS.sel [3, 2, 1, 4] rfl)⟩ ⟨rfl, rfl, rfl, rfl, rfl, rfl, rfl, trivial⟩
    replace hf := bif_t hc hf
    refine s_v rfl rfl rfl ?_
    obtain ⟨x11559, hx11560, hf⟩ := bs hf
    replace h11515 := h11515.mono hk11536
    refine s_call isf16 (Sat.shut1 (hS.sel [2, 0, 1, 3, 4] rfl)) (set_Set_int_Len_spec hx11560 h11515) rfl rfl rfl ?_
    rintro _ K11561 C11563 w hk11562 ⟨rfl, h11564⟩ hS
    iterate 4 refine s_v rfl rfl rfl ?_
    have hq := Option.some.inj hf
    subst hq
    replace h6484 := h6484.mono ((hk11510.trans hk11536).trans hk11562)
    replace h6485 := h6485.mono ((hk11510.trans hk11536).trans hk11562)
    replace hle := hle.trans ((hk11510.trans hk11536).trans hk11562)
    replace h6491 := h6491.mono (hk11536.trans hk11562)
    refine r_join hJ _ ⟨K11561, C6486, C11563, C6494, rfl, hle, h6484, h6485, h11564, h6491, (hS.sel [3, 0, 2, 4] rfl)⟩ ⟨rfl, rfl, rfl, rfl, rfl, rfl, rfl, trivial⟩
  rintro _ w ⟨K11544, C11547, C11550, C11555, rfl, hle, h11545, h11546, h11549, h11552, hS⟩
  refine s_v rfl rfl rfl ?_
  obtain ⟨s11589, hst11590, hf⟩ := bs hf
  refine r_cut [_, _, _, _, _, _, _, _] (fun τ w => ∃ (K11584 : KM) (C11587 : Chunks), τ = [(0, (.slice a2 p1.length c3)), (2, (.string p9)), (9, (.pointer (some ⟨b27, 0, none⟩))), (130, (.bool s11589))] ∧ KM.le K K11584 ∧ SlK 9 K11584 a2 c3 p1 ∧ SetO 59 K11584 b27 x22 C11587 ∧ Sat w K11584 (flat [C11587, L])) rfl (fun J hJ => ?_) ?_
  · replace hf := hst11590
    cases hc : s11557.2
    · replace hf := bif_f hc hf
      refine s_no rfl rfl ?_
      refine s_no rfl rfl ?_
      refine s_no rfl rfl ?_
      refine s_no rfl rfl ?_
      refine s_no rfl rfl ?_
      refine s_no rfl rfl ?_
      refine s_no rfl rfl ?_
      refine s_v rfl rfl rfl ?_
      have hq := Option.some.inj hf
      subst hq
      refine r_join hJ _ ⟨K11544, C11547, rfl, hle, h11545, h11546, (hS.sel [0, 3] rfl)⟩ ⟨rfl, rfl, rfl, rfl, trivial⟩
    replace hf := bif_t hc hf
    iterate 2 refine s_v rfl rfl rfl ?_
    obtain ⟨x11591, hx11592, hf⟩ := bs hf
    refine s_call isf12 (Sat.shut1 (hS.sel [1, 0, 2, 3] rfl)) (set_Set_int_Has_spec hx11592 h11549) rfl rfl rfl ?_
    rintro _ K11593 C11595 w hk11594 ⟨rfl, h11596⟩ hS
    iterate 2 refine s_v rfl rfl rfl ?_
    replace h11552 := h11552.mono hk11594
    obtain ⟨K11598, hk11599, h11600, hS, hth11601⟩ := OwnS.lend h11552 (hS.sel [2, 0, 1, 3] rfl)
    replace hS : Sat w _ (flat [_, _, _]) := hS
    obtain ⟨x11602, hx11603, hf⟩ := bs hf
    refine s_call isf11 hS.nilG (bonsailaw7_has_spec hx11603 h11600) rfl rfl rfl ?_
    rintro _ K11604 C11606 w hk11605 rfl hS
    replace hS := hS.drop1
    obtain ⟨K11607, hk11608, hS⟩ := hth11601 _ _ _ hk11605 hS
    iterate 2 refine s_v rfl rfl rfl ?_
    have hq := Option.some.inj hf
    subst hq
    replace h11545 := h11545.mono (hk11594.trans hk11608)
    replace h11546 := h11546.mono (hk11594.trans hk11608)
    replace hle := hle.trans (hk11594.trans hk11608)
    refine r_join hJ _ ⟨K11607, C11547, rfl, hle, h11545, h11546, (hS.sel [2, 3] rfl)⟩ ⟨rfl, rfl, rfl, rfl, trivial⟩
  rintro _ w ⟨K11584, C11587, rfl, hle, h11585, h11586, hS⟩
  refine s_v rfl rfl rfl ?_
  obtain ⟨s11646, hst11647, hf⟩ := bs hf
  refine r_cut [_, _, _, _, _, _] (fun τ w => ∃ (K11641 : KM) (C11644 : Chunks), τ = [(0, (.slice a2 p1.length c3)), (2, (.string p9)), (9, (.pointer (some ⟨b27, 0, none⟩))), (137, (.bool s11646.2))] ∧ KM.le K K11641 ∧ SlK 9 K11641 a2 c3 p1 ∧ SetO 59 K11641 b27 s11646.1 C11644 ∧ Sat w K11641 (flat [C11644, L])) rfl (fun J hJ => ?_) ?_
  · replace hf := hst11647
    cases hc : s11589
    · replace hf := bif_f hc hf
      refine s_no rfl rfl ?_
      refine s_no rfl rfl ?_
      refine s_no rfl rfl ?_
      refine s_no rfl rfl ?_
      refine s_no rfl rfl ?_
      refine s_v rfl rfl rfl ?_
      have hq := Option.some.inj hf
      subst hq
      refine r_join hJ _ ⟨K11584, C11587, rfl, hle, h11585, h11586, hS⟩ ⟨rfl, rfl, rfl, rfl, trivial⟩
    replace hf := bif_t hc hf
    refine s_v rfl rfl rfl ?_
    obtain ⟨x11648, hx11649, hf⟩ := bs hf
    refine s_call isf18 (Sat.shut1 hS) (set_Set_string_List_spec hx11649 h11586) rfl rfl rfl ?_
    rintro _ K11650 _ w hk11651 ⟨a11653, c11654, C11657, C11658, rfl, h11655, h11656, rfl⟩ hS
    replace hS := hS.open2
    refine s_v rfl rfl rfl ?_
    obtain ⟨x11661, hx11662, hf⟩ := bs hf
    replace h11585 := h11585.mono hk11651
    refine s_call isf19 hS.nilG (bonsairef7_Sorted_spec hx11662 h11585) rfl rfl rfl ?_
    rintro _ K11663 C11665 w hk11664 ⟨a11666, c11667, rfl, h11668⟩ hS
    replace hS := hS.drop1
    replace h11655 := h11655.mono hk11664
    obtain ⟨K11669, hk11670, h11671, hS, hth11672⟩ := OwnS.lend h11655 (hS.sel [0, 1, 2] rfl)
    replace hS : Sat w _ (flat [_, _]) := hS
    obtain ⟨x11673, hx11674, hf⟩ := bs hf
    refine s_call isf17 hS.nilG (bonsaihelp_Strings_spec hx11674 h11671 (h11668.mono hk11670)) rfl rfl rfl ?_
    rintro _ K11675 C11677 w hk11676 rfl hS
    replace hS := hS.drop1
    obtain ⟨K11678, hk11679, hS⟩ := hth11672 _ _ _ hk11676 hS
    refine s_v rfl rfl rfl ?_
    have hq := Option.some.inj hf
    subst hq
    replace hle := hle.trans ((hk11651.trans hk11664).trans hk11679)
    replace h11585 := h11585.mono (hk11664.trans hk11679)
    replace h11656 := h11656.mono (hk11664.trans hk11679)
    refine r_join hJ _ ⟨K11678, C11658, rfl, hle, h11585, h11656, (hS.sel [1, 2] rfl)⟩ ⟨rfl, rfl, rfl, rfl, trivial⟩
  rintro _ w ⟨K11641, C11644, rfl, hle, h11642, h11643, hS⟩
  refine s_v rfl rfl rfl ?_
  obtain ⟨s11697, hst11698, hf⟩ := bs hf
  refine r_cut [_, _, _, _, _, _, _, _] (fun τ w => ∃ (K11692 : KM) (C11695 : Chunks), τ = [(0, (.slice a2 p1.length c3)), (9, (.pointer (some ⟨b27, 0, none⟩))), (146, (.bool s11697.2))] ∧ KM.le K K11692 ∧ SlK 9 K11692 a2 c3 p1 ∧ SetO 59 K11692 b27 s11697.1 C11695 ∧ Sat w K11692 (flat [C11695, L])) rfl (fun J hJ => ?_) ?_
  · replace hf := hst11698
    cases hc : s11646.2
    · replace hf := bif_f hc hf
      refine s_no rfl rfl ?_
      refine s_no rfl rfl ?_
      refine s_no rfl rfl ?_
      refine s_no rfl rfl ?_
      refine s_no rfl rfl ?_
      refine s_no rfl rfl ?_
      refine s_no rfl rfl ?_
      refine s_v rfl rfl rfl ?_
      have hq := Option.some.inj hf
      subst hq
      refine r_join hJ _ ⟨K11641, C11644, rfl, hle, h11642, h11643, hS⟩ ⟨rfl, rfl, rfl, trivial⟩
    replace hf := bif_t hc hf
    iterate 2 refine s_v rfl rfl rfl ?_
    obtain ⟨x11699, hx11700, hf⟩ := bs hf
    refine s_call isf20 (Sat.shut1 hS) (set_Set_string_Has_spec hx11700 h11643) rfl rfl rfl ?_
    rintro _ K11701 C11703 w hk11702 ⟨rfl, h11704⟩ hS
    iterate 2 refine s_v rfl rfl rfl ?_
    obtain ⟨x11706, hx11707, hf⟩ := bs hf
    replace h11642 := h11642.mono hk11702
    refine s_call isf21 hS.nilG (bonsairef7_In_spec hx11707 h11642) rfl rfl rfl ?_
    rintro _ K11708 C11710 w hk11709 rfl hS
    replace hS := hS.drop1
    iterate 2 refine s_v rfl rfl rfl ?_
    have hq := Option.some.inj hf
    subst hq
    replace hle := hle.trans (hk11702.trans hk11709)
    replace h11642 := h11642.mono hk11709
    replace h11704 := h11704.mono hk11709
    refine r_join hJ _ ⟨K11708, C11703, rfl, hle, h11642, h11704, hS⟩ ⟨rfl, rfl, rfl, trivial⟩
  rintro _ w ⟨K11692, C11695, rfl, hle, h11693, h11694, hS⟩
  refine s_v rfl rfl rfl ?_
  obtain ⟨s11727, hst11728, hf⟩ := bs hf
  refine r_cut [_, _, _, _, _, _, _] (fun τ w => ∃ (K11726 : KM), τ = [(154, (.bool s11727))] ∧ KM.le K K11726 ∧ Sat w K11726 (flat [L])) rfl (fun J hJ => ?_) ?_
  · replace hf := hst11728
    cases hc : s11697.2
    · replace hf := bif_f hc hf
      refine s_no rfl rfl ?_
      refine s_no rfl rfl ?_
      refine s_no rfl rfl ?_
      refine s_no rfl rfl ?_
      refine s_no rfl rfl ?_
      refine s_no rfl rfl ?_
      refine s_v rfl rfl rfl ?_
      have hq := Option.some.inj hf
      subst hq
      refine r_join hJ _ ⟨K11692, rfl, hle, (hS.sel [1] rfl)⟩ ⟨rfl, trivial⟩
    replace hf := bif_t hc hf
    refine s_v rfl rfl rfl ?_
    obtain ⟨x11729, hx11730, hf⟩ := bs hf
    refine s_call isf22 (Sat.shut1 hS) (set_Set_string_Len_spec hx11730 h11694) rfl rfl rfl ?_
    rintro _ K11731 C11733 w hk11732 ⟨rfl, h11734⟩ hS
    refine s_v rfl rfl rfl ?_
    obtain ⟨x11736, hx11737, hf⟩ := bs hf
    replace h11693 := h11693.mono hk11732
    refine s_call isf19 hS.nilG (bonsairef7_Sorted_spec hx11737 h11693) rfl rfl rfl ?_
    rintro _ K11738 C11740 w hk11739 ⟨a11741, c11742, rfl, h11743⟩ hS
    replace hS := hS.drop1
    iterate 3 refine s_v rfl rfl rfl ?_
    have hq := Option.some.inj hf
    subst hq
    replace hle := hle.trans (hk11732.trans hk11739)
    refine r_join hJ _ ⟨K11738, rfl, hle, (hS.sel [1] rfl)⟩ ⟨rfl, trivial⟩
  rintro _ w ⟨K11726, rfl, hle, hS⟩
  refine s_v rfl rfl rfl ?_
  refine s_nil (qn (s_rets ?_))
  have hq := Option.some.inj hf
  subst hq
  refine s_ret1 rfl (rv_t rfl) ?_
  exact ⟨K11726, _, hle, rfl, Sat.nilG (hS.sel [0] rfl)⟩
end Go.Proofs.Ytdgpckcphkpclaa
