/- Functions of the program, and their walks: what each reckons, and that its code reckons it. -/
import Derived.Test.YtgaldjnnfkdohaaHk
set_option linter.unusedVariables false
set_option linter.unusedSimpArgs false
set_option maxHeartbeats 0
set_option maxRecDepth 100000
namespace Go.Proofs.Ytgaldjnnfkdohaa
open Go Go.Fw
noncomputable def bod4 : Code := Try.f4.body.getD .skip
theorem isf4 : IsFn Try.prog 4 Try.f4 bod4 := ⟨Try.func4, rfl, by decide⟩
-- 4 bonsai/bonsailaw15.HeapRoom
def bonsailaw15_HeapRoom.l0 (fu : Nat) (p2 : (List Int)) : Nat → Int → (List heap_thing) → Int → Int → Int → Int → Int → Option (LR ((List heap_thing) × Int × Int) Bool)
  | 0, _, _, _, _, _, _, _ => none
  | k + 1, v1108, v1109, v1110, v1111, v1112, v1113, v1114 => bif decide (v1114 < (p2.length : Int)) then ((idx p2 v1114).bind fun x1115 => ((idx p2 v1114).bind fun x1167 => bif decide (x1167 > 127) then ((heap_Heap_Array.fn (heap_Heap.mk v1109 v1110 v1111) (w32 (w64 (Int.tmod x1115 9)))).bind fun x1172 => some (x1172.2.2.l_, x1172.2.2.used_, x1172.2.2.most_, w64 (Int.tmod x1115 9), x1172.1.N, x1172.1.S, x1172.1.Ref, x1172.2.1)) else (guardB (mayMake (w64 (Int.tmod x1115 9)) 48) ((heap_Heap_Object.fn (heap_Heap.mk v1109 v1110 v1111) (⟨#[65]⟩ : ByteArray) (List.replicate (w64 (Int.tmod x1115 9)).toNat (GoZero.zero 97 (α := api_Field)))).bind fun x1192 => some (x1192.2.2.l_, x1192.2.2.used_, x1192.2.2.most_, w64 (Int.tmod x1115 9), x1192.1.N, x1192.1.S, x1192.1.Ref, x1192.2.1)))).bind fun s1165 => (bif !(s1165.2.2.2.2.2.2.2 == (decide ((w64 ((w64 (v1112 + s1165.2.2.2.1)) + 1)) ≤ v1108))) then (some true) else ((bif !s1165.2.2.2.2.2.2.2 then (some (s1165.2.2.2.2.2.2.1 != 0)) else (some false)).bind fun s1228 => some s1228)).bind fun s1219 => bif s1219 then (LR.esc (some false)) else (LR.then (bif s1165.2.2.2.2.2.2.2 then ((bif s1165.2.2.2.2.2.2.1 != (w64 (v1113 + 1)) then (some (s1165.1, s1165.2.1, s1165.2.2.1, w64 ((w64 (v1112 + s1165.2.2.2.1)) + 1), w64 (v1113 + 1), true)) else ((heap_Heap_Len.fn (heap_Heap.mk s1165.1 s1165.2.1 s1165.2.2.1) (heap_Value.mk s1165.2.2.2.2.1 s1165.2.2.2.2.2.1 s1165.2.2.2.2.2.2.1)).bind fun x1292 => some (x1292.2.l_, x1292.2.used_, x1292.2.most_, w64 ((w64 (v1112 + s1165.2.2.2.1)) + 1), w64 (v1113 + 1), x1292.1 != s1165.2.2.2.1))).bind fun s1290 => bif s1290.2.2.2.2.2 then (LR.esc (LR.esc (some false))) else (some (.brk (s1290.1, s1290.2.1, s1290.2.2.1, s1290.2.2.2.1, s1290.2.2.2.2.1)))) else (some (.brk (s1165.1, s1165.2.1, s1165.2.2.1, v1112, v1113)))) fun s1268 => (heap_Heap_Used.fn (heap_Heap.mk s1268.1 s1268.2.1 s1268.2.2.1)).bind fun x1303 => bif x1303.1 != s1268.2.2.2.1 then (LR.esc (some false)) else (bonsailaw15_HeapRoom.l0 fu p2 k v1108 x1303.2.l_ x1303.2.used_ x1303.2.most_ s1268.2.2.2.1 s1268.2.2.2.2 (w64 (v1114 + 1))))) else (some (.brk (v1109, v1110, v1111)))
def bonsailaw15_HeapRoom.fn (fu : Nat) (p1 : Int) (p2 : (List Int)) : Option Bool := (bonsailaw15_known.fn).bind fun x7 => bif !x7 then (some false) else (bif decide ((p2.length : Int) > 40) then (some true) else ((heap_New.fn (w64 (Int.tmod p1 60))).bind fun x12 => LR.then (bonsailaw15_HeapRoom.l0 fu p2 fu (w64 (Int.tmod p1 60)) x12.l_ x12.used_ x12.most_ 0 0 0) fun s670 => (heap_Heap_Array.fn (heap_Heap.mk s670.1 s670.2.1 s670.2.2) (-1)).bind fun x1314 => (bif !x1314.2.1 then ((heap_New.fn (-5)).bind fun x1353 => (heap_Heap_Used.fn x1353).bind fun x1365 => some (x1365.1 == 0)) else (some false)).bind fun s1351 => some s1351))
theorem bonsailaw15_HeapRoom_spec {K : KM} {fu : Nat} {p1 : Int} {p2 : (List Int)} {r : Bool} {a3 : Option Addr} {c4 : Nat} (hf : bonsailaw15_HeapRoom.fn fu p1 p2 = some r) (h5 : SlK 5 K a3 c4 p2) : Sp Try.prog 4 [(.int .u8 p1), (.slice a3 p2.length c4)] K [] (fun K' C v => v = (.bool r)) := by
  unfold bonsailaw15_HeapRoom.fn at hf
  refine spec_enter isf4 rfl ?_
  intro w L hS
  replace hS : Sat w K (flat [L]) := hS
  have hle := KM.le.refl K
  unfold bod4 Try.f4
  dsimp only [Option.getD_some, argSlots]
  refine s_seq (s_reg ?_)
  refine s_v rfl rfl rfl ?_
  refine s_nil (qn (s_seq (s_seq (s_reg ?_))))
  obtain ⟨x7, hx8, hf⟩ := bs hf
  refine s_call isf12 hS.nilG (bonsailaw15_known_spec hx8) rfl rfl rfl ?_
  rintro _ K9 C11 w hk10 rfl hS
  replace hS := hS.drop1
  refine s_v rfl rfl rfl ?_
  refine s_nil (qn ?_)
  refine s_if rfl (fun hc => ?_) (fun hc => ?_)
  · replace hf := bif_t hc hf
    refine s_seq (s_reg ?_)
    refine s_v rfl rfl rfl ?_
    refine s_nil (qn (s_rets (qrt ?_)))
    have hq := Option.some.inj hf
    subst hq
    refine s_ret1 rfl (rv_t rfl) ?_
    replace hle := hle.trans hk10
    exact ⟨K9, _, hle, rfl, Sat.nilG (hS.sel [0] rfl)⟩
  replace hf := bif_f hc hf
  refine s_skip (qn (s_seq (s_seq (s_reg ?_))))
  iterate 3 refine s_v rfl rfl rfl ?_
  refine s_nil (qn ?_)
  refine s_if rfl (fun hc => ?_) (fun hc => ?_)
  · replace hf := bif_t hc hf
    refine s_seq (s_reg ?_)
    refine s_v rfl rfl rfl ?_
    refine s_nil (qn (s_rets (qrt ?_)))
    have hq := Option.some.inj hf
    subst hq
    refine s_ret1 rfl (rv_t rfl) ?_
    replace hle := hle.trans hk10
    exact ⟨K9, _, hle, rfl, Sat.nilG (hS.sel [0] rfl)⟩
  replace hf := bif_f hc hf
  refine s_skip (qn (s_seq (s_reg ?_)))
  iterate 4 refine s_v rfl rfl rfl ?_
  refine s_nil (qn (s_seq (s_reg ?_)))
  refine s_v rfl rfl rfl ?_
  obtain ⟨x12, hx13, hf⟩ := bs hf
  refine s_call isf13 hS.nilG (heap_New_spec hx13) rfl rfl rfl ?_
  rintro _ K14 _ w hk15 ⟨b17, a18, c19, C22, rfl, h20, rfl⟩ hS
  replace hS := hS.open2
  refine s_v rfl rfl rfl ?_
  refine s_nil (qn (s_seq (s_reg ?_)))
  iterate 2 refine s_v rfl rfl rfl ?_
  refine s_nil (qn ?_)
  obtain ⟨res671, hst672, hm673⟩ := LR.then_some hf
  refine s_cut (fun τ w => ∃ (s670 : ((List heap_thing) × Int × Int)) (K664 : KM) (a666 : Option Addr) (c667 : Nat) (C668 : Chunks), res671 = .brk s670 ∧ τ = [(6, (.pointer (some ⟨b17, 0, none⟩)))] ∧ KM.le K K664 ∧ OwnD 105 D105 K664 (.slice a666 s670.1.length c667) s670.1 C668 ∧ Sat w K664 (flat [[(b17, Cl [(.slice a666 s670.1.length c667), (.int .i64 s670.2.1), (.int .i64 s670.2.2)] 100)], C668, L])) (fun J hJ => ?_) ?_
  · replace hf := hst672
    refine s_seq (s_reg ?_)
    refine s_v rfl rfl rfl ?_
    refine s_nil (qn (s_block ?_))
    replace h5 := h5.mono (hk10.trans hk15)
    replace hle := hle.trans (hk10.trans hk15)
    refine s_loopp (fun n τ w => ∃ (v1108 : Int) (v1109 : (List heap_thing)) (v1110 : Int) (v1111 : Int) (v1112 : Int) (v1113 : Int) (v1114 : Int) (K1101 : KM) (a1104 : Option Addr) (c1105 : Nat) (C1106 : Chunks), bonsailaw15_HeapRoom.l0 fu p2 n v1108 v1109 v1110 v1111 v1112 v1113 v1114 = some res671 ∧ τ = [(1, (.slice a3 p2.length c4)), (5, (.int .i64 v1108)), (6, (.pointer (some ⟨b17, 0, none⟩))), (7, (.int .i64 v1112)), (8, (.int .i64 v1113)), (9, (.int .i64 v1114))] ∧ KM.le K K1101 ∧ SlK 5 K1101 a3 c4 p2 ∧ OwnD 105 D105 K1101 (.slice a1104 v1109.length c1105) v1109 C1106 ∧ Sat w K1101 (flat [[(b17, Cl [(.slice a1104 v1109.length c1105), (.int .i64 v1110), (.int .i64 v1111)] 100)], C1106, L])) _ ⟨w64 (Int.tmod p1 60), x12.l_, x12.used_, x12.most_, 0, 0, 0, K14, a18, c19, C22, hf, rfl, hle, h5, h20, hS⟩ ⟨rfl, rfl, rfl, rfl, rfl, rfl, trivial⟩ ?_ ?_
    · rintro _ _ ⟨_, _, _, _, _, _, _, _, _, _, _, hf, _⟩
      exact absurd hf (by simp [bonsailaw15_HeapRoom.l0])
    rintro n _ w Y hY ⟨v1108, v1109, v1110, v1111, v1112, v1113, v1114, K1101, a1104, c1105, C1106, hf, rfl, hle, h1102, h1103, hS⟩
    rw [bonsailaw15_HeapRoom.l0] at hf
    refine s_seq (s_seq (s_reg ?_))
    iterate 4 refine s_v rfl rfl rfl ?_
    refine s_nil (qn ?_)
    refine s_if rfl (fun hc => ?_) (fun hc => ?_)
    · replace hf := bif_t hc hf
      refine s_skip (qn (s_seq (s_block (s_seq (s_reg ?_)))))
      iterate 2 refine s_v rfl rfl rfl ?_
      obtain ⟨x1115, hx1116, hf⟩ := bs hf
      refine s_ixk h1102 rfl hx1116 rfl rfl rfl rfl rfl rfl rfl ?_
      rintro b1117 o1118 _ rfl h1119
      refine s_ldk 0 hS h1119 rfl rfl rfl rfl ?_
      iterate 3 refine s_v rfl rfl rfl ?_
      refine s_nil (qn (s_seq (s_reg ?_)))
      refine s_al hS rfl rfl rfl ?_
      intro b1120 w hS
      replace hS : Sat w K1101 (flat ([(b1120, Cl [(.int .i32 0), (.string ByteArray.empty), (.int .i64 0)] 32)] :: _)) := hS
      refine s_nil (qn (s_seq (s_reg ?_)))
      refine s_v rfl rfl rfl ?_
      refine s_nil (qn ?_)
      obtain ⟨s1165, hst1166, hf⟩ := bs hf
      refine s_cut (fun τ w => ∃ (K1158 : KM) (a1161 : Option Addr) (c1162 : Nat) (C1163 : Chunks), τ = [(1, (.slice a3 p2.length c4)), (5, (.int .i64 v1108)), (6, (.pointer (some ⟨b17, 0, none⟩))), (7, (.int .i64 v1112)), (8, (.int .i64 v1113)), (9, (.int .i64 v1114)), (10, (.int .i64 s1165.2.2.2.1)), (11, (.pointer (some ⟨b1120, 0, none⟩))), (12, (.bool s1165.2.2.2.2.2.2.2))] ∧ KM.le K K1158 ∧ SlK 5 K1158 a3 c4 p2 ∧ OwnD 105 D105 K1158 (.slice a1161 s1165.1.length c1162) s1165.1 C1163 ∧ Sat w K1158 (flat [[(b17, Cl [(.slice a1161 s1165.1.length c1162), (.int .i64 s1165.2.1), (.int .i64 s1165.2.2.1)] 100)], C1163, [(b1120, Cl [(.int .i32 s1165.2.2.2.2.1), (.string s1165.2.2.2.2.2.1), (.int .i64 s1165.2.2.2.2.2.2.1)] 32)], L])) (fun J hJ => ?_) ?_
      · replace hf := hst1166
        refine s_seq (s_reg ?_)
        iterate 2 refine s_v rfl rfl rfl ?_
        obtain ⟨x1167, hx1168, hf⟩ := bs hf
        refine s_ixk h1102 rfl hx1168 rfl rfl rfl rfl rfl rfl rfl ?_
        rintro b1169 o1170 _ rfl h1171
        refine s_ldk 0 hS h1171 rfl rfl rfl rfl ?_
        refine s_v rfl rfl rfl ?_
        refine s_nil (qn ?_)
        refine s_if rfl (fun hc => ?_) (fun hc => ?_)
        · replace hf := bif_t hc hf
          refine s_reg ?_
          iterate 3 refine s_v rfl rfl rfl ?_
          obtain ⟨x1172, hx1173, hf⟩ := bs hf
          refine s_call isf18 (Sat.shut2 (hS.sel [1, 2, 0, 3] rfl)) (heap_Heap_Array_spec hx1173 h1103) rfl rfl rfl ?_
          rintro _ K1174 _ w hk1175 ⟨a1177, c1178, C1181, rfl, h1179, rfl⟩ hS
          replace hS := hS.open2
          iterate 3 refine s_v rfl rfl rfl ?_
          refine s_st (cs' := (vv32 x1172.1)) 2 hS rfl rfl rfl rfl rfl ?_
          intro w hS
          replace hS : Sat w _ (flat [_, _, _, _]) := hS
          refine s_v rfl rfl rfl ?_
          refine s_nil (qn ?_)
          have hq := Option.some.inj hf
          subst hq
          replace h1102 := h1102.mono hk1175
          replace hle := hle.trans hk1175
          refine s_join hJ _ ⟨K1174, a1177, c1178, C1181, rfl, hle, h1102, h1179, hS⟩ ⟨rfl, rfl, rfl, rfl, rfl, rfl, rfl, rfl, rfl, trivial⟩
        replace hf := bif_f hc hf
        refine s_reg ?_
        iterate 2 refine s_v rfl rfl rfl ?_
        obtain ⟨hm1183, hf⟩ := gs hf
        refine s_mks (e := 97) (α := api_Field) hS rfl rfl rfl rfl (mayMake_le hm1183).1 (mayMake_le hm1183).2 rfl rfl rfl rfl rfl rfl ?_
        intro a1184 c1185 w C1186 h1187 hS
        obtain ⟨K1189, hk1190, h1191, hS⟩ := h1187.freeze (hS.sel [0, 1, 2, 3, 4] rfl)
        replace hS : Sat w _ (flat [_, _, _, _]) := hS
        obtain ⟨x1192, hx1193, hf⟩ := bs hf
        replace h1103 := h1103.mono hk1190
        refine s_call isf15 (Sat.shut2 (hS.sel [1, 2, 0, 3] rfl)) (heap_Heap_Object_spec hx1193 h1103) rfl rfl rfl ?_
        rintro _ K1194 _ w hk1195 ⟨a1197, c1198, C1201, rfl, h1199, rfl⟩ hS
        replace hS := hS.open2
        iterate 3 refine s_v rfl rfl rfl ?_
        refine s_st (cs' := (vv32 x1192.1)) 2 hS rfl rfl rfl rfl rfl ?_
        intro w hS
        replace hS : Sat w _ (flat [_, _, _, _]) := hS
        refine s_v rfl rfl rfl ?_
        refine s_nil (qn ?_)
        have hq := Option.some.inj hf
        subst hq
        replace h1102 := h1102.mono (hk1190.trans hk1195)
        replace hle := hle.trans (hk1190.trans hk1195)
        refine s_join hJ _ ⟨K1194, a1197, c1198, C1201, rfl, hle, h1102, h1199, hS⟩ ⟨rfl, rfl, rfl, rfl, rfl, rfl, rfl, rfl, rfl, trivial⟩
      rintro _ w ⟨K1158, a1161, c1162, C1163, rfl, hle, h1159, h1160, hS⟩
      refine s_seq (s_reg ?_)
      iterate 7 refine s_v rfl rfl rfl ?_
      refine s_nil (qn (s_seq (s_seq (s_reg ?_))))
      iterate 4 refine s_v rfl rfl rfl ?_
      obtain ⟨s1219, hst1220, hf⟩ := bs hf
      refine r_cut [_, _, _, _, _, _, _, _] (fun τ w => ∃ (K1212 : KM) (C1217 : Chunks), τ = [(1, (.slice a3 p2.length c4)), (5, (.int .i64 v1108)), (6, (.pointer (some ⟨b17, 0, none⟩))), (7, (.int .i64 v1112)), (8, (.int .i64 v1113)), (9, (.int .i64 v1114)), (10, (.int .i64 s1165.2.2.2.1)), (11, (.pointer (some ⟨b1120, 0, none⟩))), (12, (.bool s1165.2.2.2.2.2.2.2)), (74, (.bool s1219))] ∧ KM.le K K1212 ∧ SlK 5 K1212 a3 c4 p2 ∧ OwnD 105 D105 K1212 (.slice a1161 s1165.1.length c1162) s1165.1 C1217 ∧ Sat w K1212 (flat [[(b17, Cl [(.slice a1161 s1165.1.length c1162), (.int .i64 s1165.2.1), (.int .i64 s1165.2.2.1)] 100)], C1217, [(b1120, Cl [(.int .i32 s1165.2.2.2.2.1), (.string s1165.2.2.2.2.2.1), (.int .i64 s1165.2.2.2.2.2.2.1)] 32)], L])) rfl (fun J hJ => ?_) ?_
      · replace hf := hst1220
        cases hc : (!(s1165.2.2.2.2.2.2.2 == (decide ((w64 ((w64 (v1112 + s1165.2.2.2.1)) + 1)) ≤ v1108))))
        · replace hf := bif_f hc hf
          iterate 3 refine s_v rfl rfl rfl ?_
          obtain ⟨s1228, hst1229, hf⟩ := bs hf
          refine r_cut [_, _, _, _, _] (fun τ w => ∃ (K1221 : KM) (C1226 : Chunks), τ = [(1, (.slice a3 p2.length c4)), (5, (.int .i64 v1108)), (6, (.pointer (some ⟨b17, 0, none⟩))), (7, (.int .i64 v1112)), (8, (.int .i64 v1113)), (9, (.int .i64 v1114)), (10, (.int .i64 s1165.2.2.2.1)), (11, (.pointer (some ⟨b1120, 0, none⟩))), (12, (.bool s1165.2.2.2.2.2.2.2)), (74, (.bool s1228))] ∧ KM.le K K1221 ∧ SlK 5 K1221 a3 c4 p2 ∧ OwnD 105 D105 K1221 (.slice a1161 s1165.1.length c1162) s1165.1 C1226 ∧ Sat w K1221 (flat [[(b17, Cl [(.slice a1161 s1165.1.length c1162), (.int .i64 s1165.2.1), (.int .i64 s1165.2.2.1)] 100)], C1226, [(b1120, Cl [(.int .i32 s1165.2.2.2.2.1), (.string s1165.2.2.2.2.2.1), (.int .i64 s1165.2.2.2.2.2.2.1)] 32)], L])) rfl (fun J hJ => ?_) ?_
          · replace hf := hst1229
            cases hc : (!s1165.2.2.2.2.2.2.2)
            · replace hf := bif_f hc hf
              refine s_no rfl rfl ?_
              refine s_no rfl rfl ?_
              refine s_no rfl rfl ?_
              iterate 2 refine s_v rfl rfl rfl ?_
              have hq := Option.some.inj hf
              subst hq
              refine r_join hJ _ ⟨K1158, C1163, rfl, hle, h1159, h1160, hS⟩ ⟨rfl, rfl, rfl, rfl, rfl, rfl, rfl, rfl, rfl, rfl, trivial⟩
            replace hf := bif_t hc hf
            refine s_v rfl rfl rfl ?_
            refine s_ld 2 hS rfl rfl rfl rfl rfl ?_
            iterate 3 refine s_v rfl rfl rfl ?_
            have hq := Option.some.inj hf
            subst hq
            refine r_join hJ _ ⟨K1158, C1163, rfl, hle, h1159, h1160, hS⟩ ⟨rfl, rfl, rfl, rfl, rfl, rfl, rfl, rfl, rfl, rfl, trivial⟩
          rintro _ w ⟨K1221, C1226, rfl, hle, h1222, h1223, hS⟩
          have hq := Option.some.inj hf
          subst hq
          refine r_join hJ _ ⟨K1221, C1226, rfl, hle, h1222, h1223, hS⟩ ⟨rfl, rfl, rfl, rfl, rfl, rfl, rfl, rfl, rfl, rfl, trivial⟩
        replace hf := bif_t hc hf
        refine s_no rfl rfl ?_
        refine s_no rfl rfl ?_
        refine s_no rfl rfl ?_
        refine s_no rfl rfl ?_
        refine s_no rfl rfl ?_
        refine s_no rfl rfl ?_
        refine s_no rfl rfl ?_
        refine s_v rfl rfl rfl ?_
        have hq := Option.some.inj hf
        subst hq
        refine r_join hJ _ ⟨K1158, C1163, rfl, hle, h1159, h1160, hS⟩ ⟨rfl, rfl, rfl, rfl, rfl, rfl, rfl, rfl, rfl, rfl, trivial⟩
      rintro _ w ⟨K1212, C1217, rfl, hle, h1213, h1214, hS⟩
      refine s_nil (qn ?_)
      refine s_if rfl (fun hc => ?_) (fun hc => ?_)
      · replace hf := bif_t hc hf
        refine s_seq (s_reg ?_)
        refine s_v rfl rfl rfl ?_
        refine s_nil (qn ?_)
        replace hS : Sat w K1212 (flat [_]) := (hS.sel [3] rfl)
        refine s_rets (qrt (qrb (qrt (qrt (qrb (qrt ?_))))))
        replace hf := LR.esc_some hf hm673
        have hq := Option.some.inj hf
        subst hq
        refine s_ret1 rfl (rv_t rfl) ?_
        exact ⟨K1212, _, hle, rfl, Sat.nilG (hS.sel [0] rfl)⟩
      replace hf := bif_f hc hf
      refine s_skip (qn ?_)
      obtain ⟨res1269, hst1270, hm1271⟩ := LR.then_some hf
      refine s_cut (fun τ w => ∃ (s1268 : ((List heap_thing) × Int × Int × Int × Int)) (K1261 : KM) (a1264 : Option Addr) (c1265 : Nat) (C1266 : Chunks), res1269 = .brk s1268 ∧ τ = [(1, (.slice a3 p2.length c4)), (5, (.int .i64 v1108)), (6, (.pointer (some ⟨b17, 0, none⟩))), (7, (.int .i64 s1268.2.2.2.1)), (8, (.int .i64 s1268.2.2.2.2)), (9, (.int .i64 v1114))] ∧ KM.le K K1261 ∧ SlK 5 K1261 a3 c4 p2 ∧ OwnD 105 D105 K1261 (.slice a1264 s1268.1.length c1265) s1268.1 C1266 ∧ Sat w K1261 (flat [[(b17, Cl [(.slice a1264 s1268.1.length c1265), (.int .i64 s1268.2.1), (.int .i64 s1268.2.2.1)] 100)], C1266, L])) (fun J hJ => ?_) ?_
      · replace hf := hst1270
        refine s_seq (s_reg ?_)
        refine s_v rfl rfl rfl ?_
        refine s_nil (qn ?_)
        refine s_if rfl (fun hc => ?_) (fun hc => ?_)
        · replace hf := bif_t hc hf
          refine s_seq (s_reg ?_)
          iterate 8 refine s_v rfl rfl rfl ?_
          refine s_nil (qn (s_seq (s_reg ?_)))
          refine s_v rfl rfl rfl ?_
          refine s_ld 2 hS rfl rfl rfl rfl rfl ?_
          iterate 3 refine s_v rfl rfl rfl ?_
          obtain ⟨s1290, hst1291, hf⟩ := bs hf
          refine r_cut [_, _, _, _, _, _] (fun τ w => ∃ (K1283 : KM) (a1286 : Option Addr) (c1287 : Nat) (C1288 : Chunks), τ = [(1, (.slice a3 p2.length c4)), (5, (.int .i64 v1108)), (6, (.pointer (some ⟨b17, 0, none⟩))), (7, (.int .i64 s1290.2.2.2.1)), (8, (.int .i64 s1290.2.2.2.2.1)), (9, (.int .i64 v1114)), (92, (.bool s1290.2.2.2.2.2))] ∧ KM.le K K1283 ∧ SlK 5 K1283 a3 c4 p2 ∧ OwnD 105 D105 K1283 (.slice a1286 s1290.1.length c1287) s1290.1 C1288 ∧ Sat w K1283 (flat [[(b17, Cl [(.slice a1286 s1290.1.length c1287), (.int .i64 s1290.2.1), (.int .i64 s1290.2.2.1)] 100)], C1288, L])) rfl (fun J hJ => ?_) ?_
          · replace hf := hst1291
            cases hc : (s1165.2.2.2.2.2.2.1 != (w64 (v1113 + 1)))
            · replace hf := bif_f hc hf
              refine s_v rfl rfl rfl ?_
              refine s_ld (v := (.agg #[(.int .i32 s1165.2.2.2.2.1), (.string s1165.2.2.2.2.2.1), (.int .i64 s1165.2.2.2.2.2.2.1)])) 2 hS rfl rfl rfl rfl rfl ?_
              obtain ⟨x1292, hx1293, hf⟩ := bs hf
              refine s_call isf25 (Sat.shut2 hS) (heap_Heap_Len_spec hx1293 h1214) rfl rfl rfl ?_
              rintro _ K1294 _ w hk1295 ⟨a1297, c1298, C1301, rfl, h1299, rfl⟩ hS
              replace hS := hS.open2
              iterate 3 refine s_v rfl rfl rfl ?_
              have hq := Option.some.inj hf
              subst hq
              replace h1213 := h1213.mono hk1295
              replace hle := hle.trans hk1295
              refine r_join hJ _ ⟨K1294, a1297, c1298, C1301, rfl, hle, h1213, h1299, (hS.sel [0, 1, 3] rfl)⟩ ⟨rfl, rfl, rfl, rfl, rfl, rfl, rfl, trivial⟩
            replace hf := bif_t hc hf
            refine s_no rfl rfl ?_
            refine s_no rfl rfl ?_
            refine s_no rfl rfl ?_
            refine s_no rfl rfl ?_
            refine s_no rfl rfl ?_
            refine s_v rfl rfl rfl ?_
            have hq := Option.some.inj hf
            subst hq
            refine r_join hJ _ ⟨K1212, a1161, c1162, C1217, rfl, hle, h1213, h1214, (hS.sel [0, 1, 3] rfl)⟩ ⟨rfl, rfl, rfl, rfl, rfl, rfl, rfl, trivial⟩
          rintro _ w ⟨K1283, a1286, c1287, C1288, rfl, hle, h1284, h1285, hS⟩
          refine s_nil (qn ?_)
          refine s_if rfl (fun hc => ?_) (fun hc => ?_)
          · replace hf := bif_t hc hf
            refine s_seq (s_reg ?_)
            refine s_v rfl rfl rfl ?_
            refine s_nil (qn ?_)
            replace hS : Sat w K1283 (flat [_]) := (hS.sel [2] rfl)
            refine s_rets (qrt ?_)
            replace hf := LR.esc_some hf hm1271
            refine qrb (qrt (qrt (qrb (qrt ?_))))
            replace hf := LR.esc_some hf hm673
            have hq := Option.some.inj hf
            subst hq
            refine s_ret1 rfl (rv_t rfl) ?_
            exact ⟨K1283, _, hle, rfl, Sat.nilG (hS.sel [0] rfl)⟩
          replace hf := bif_f hc hf
          refine s_skip (qn ?_)
          have hq := Option.some.inj hf
          subst hq
          refine s_join hJ _ ⟨(s1290.1, s1290.2.1, s1290.2.2.1, s1290.2.2.2.1, s1290.2.2.2.2.1), K1283, a1286, c1287, C1288, rfl, rfl, hle, h1284, h1285, hS⟩ ⟨rfl, rfl, rfl, rfl, rfl, rfl, trivial⟩
        replace hf := bif_f hc hf
        refine s_skip (qn ?_)
        have hq := Option.some.inj hf
        subst hq
        refine s_join hJ _ ⟨(s1165.1, s1165.2.1, s1165.2.2.1, v1112, v1113), K1212, a1161, c1162, C1217, rfl, rfl, hle, h1213, h1214, (hS.sel [0, 1, 3] rfl)⟩ ⟨rfl, rfl, rfl, rfl, rfl, rfl, trivial⟩
      rintro _ w ⟨s1268, K1261, a1264, c1265, C1266, rfl, rfl, hle, h1262, h1263, hS⟩
      replace hf := LR.elim_brk hm1271
      refine s_seq (s_reg ?_)
      refine s_v rfl rfl rfl ?_
      obtain ⟨x1303, hx1304, hf⟩ := bs hf
      refine s_call isf24 (Sat.shut2 hS) (heap_Heap_Used_spec hx1304 h1263) rfl rfl rfl ?_
      rintro _ K1305 _ w hk1306 ⟨a1308, c1309, C1312, rfl, h1310, rfl⟩ hS
      replace hS := hS.open2
      iterate 2 refine s_v rfl rfl rfl ?_
      refine s_nil (qn ?_)
      refine s_if rfl (fun hc => ?_) (fun hc => ?_)
      · replace hf := bif_t hc hf
        refine s_seq (s_reg ?_)
        refine s_v rfl rfl rfl ?_
        refine s_nil (qn ?_)
        replace hS : Sat w K1305 (flat [_]) := (hS.sel [2] rfl)
        refine s_rets (qrb (qrt (qrt (qrb (qrt ?_)))))
        replace hf := LR.esc_some hf hm673
        have hq := Option.some.inj hf
        subst hq
        refine s_ret1 rfl (rv_t rfl) ?_
        replace hle := hle.trans hk1306
        exact ⟨K1305, _, hle, rfl, Sat.nilG (hS.sel [0] rfl)⟩
      replace hf := bif_f hc hf
      refine s_skip (qbn (qn (s_reg ?_)))
      iterate 3 refine s_v rfl rfl rfl ?_
      refine s_nil (qn ?_)
      replace h1262 := h1262.mono hk1306
      replace hle := hle.trans hk1306
      refine s_join hY _ ⟨v1108, x1303.2.l_, x1303.2.used_, x1303.2.most_, s1268.2.2.2.1, s1268.2.2.2.2, w64 (v1114 + 1), K1305, a1308, c1309, C1312, hf, rfl, hle, h1262, h1310, hS⟩ ⟨rfl, rfl, rfl, rfl, rfl, rfl, trivial⟩
    replace hf := bif_f hc hf
    refine s_exit (qxt (qxt (qxb (qn ?_))))
    have hq := Option.some.inj hf
    subst hq
    refine s_join hJ _ ⟨(v1109, v1110, v1111), K1101, a1104, c1105, C1106, rfl, rfl, hle, h1103, hS⟩ ⟨rfl, trivial⟩
  rintro _ w ⟨s670, K664, a666, c667, C668, rfl, rfl, hle, h665, hS⟩
  replace hf := LR.elim_brk hm673
  refine s_seq (s_reg ?_)
  refine s_v rfl rfl rfl ?_
  obtain ⟨x1314, hx1315, hf⟩ := bs hf
  refine s_call isf18 (Sat.shut2 hS) (heap_Heap_Array_spec hx1315 h665) rfl rfl rfl ?_
  rintro _ K1316 _ w hk1317 ⟨a1319, c1320, C1323, rfl, h1321, rfl⟩ hS
  replace hS := hS.open2
  iterate 3 refine s_v rfl rfl rfl ?_
  refine s_al hS rfl rfl rfl ?_
  intro b1325 w hS
  replace hS : Sat w K1316 (flat ([(b1325, Cl [(.int .i32 0), (.string ByteArray.empty), (.int .i64 0)] 32)] :: _)) := hS
  refine s_st (cs' := (vv32 x1314.1)) 0 hS rfl rfl rfl rfl rfl ?_
  intro w hS
  replace hS : Sat w _ (flat [_, _, _, _]) := hS
  refine s_v rfl rfl rfl ?_
  refine s_nil (qn ?_)
  replace hS : Sat w K1316 (flat [_]) := (hS.sel [3] rfl)
  refine s_seq (s_reg ?_)
  iterate 3 refine s_v rfl rfl rfl ?_
  obtain ⟨s1351, hst1352, hf⟩ := bs hf
  refine r_cut [_, _, _, _] (fun τ w => ∃ (K1350 : KM), τ = [(108, (.bool s1351))] ∧ KM.le K K1350 ∧ Sat w K1350 (flat [L])) rfl (fun J hJ => ?_) ?_
  · replace hf := hst1352
    cases hc : (!x1314.2.1)
    · replace hf := bif_f hc hf
      refine s_no rfl rfl ?_
      refine s_no rfl rfl ?_
      refine s_no rfl rfl ?_
      refine s_v rfl rfl rfl ?_
      have hq := Option.some.inj hf
      subst hq
      replace hle := hle.trans hk1317
      refine r_join hJ _ ⟨K1316, rfl, hle, hS⟩ ⟨rfl, trivial⟩
    replace hf := bif_t hc hf
    obtain ⟨x1353, hx1354, hf⟩ := bs hf
    refine s_call isf13 hS.nilG (heap_New_spec hx1354) rfl rfl rfl ?_
    rintro _ K1355 _ w hk1356 ⟨b1358, a1359, c1360, C1363, rfl, h1361, rfl⟩ hS
    replace hS := hS.open2
    obtain ⟨x1365, hx1366, hf⟩ := bs hf
    refine s_call isf24 (Sat.shut2 hS) (heap_Heap_Used_spec hx1366 h1361) rfl rfl rfl ?_
    rintro _ K1367 _ w hk1368 ⟨a1370, c1371, C1374, rfl, h1372, rfl⟩ hS
    replace hS := hS.open2
    iterate 2 refine s_v rfl rfl rfl ?_
    have hq := Option.some.inj hf
    subst hq
    replace hle := hle.trans ((hk1317.trans hk1356).trans hk1368)
    refine r_join hJ _ ⟨K1367, rfl, hle, (hS.sel [2] rfl)⟩ ⟨rfl, trivial⟩
  rintro _ w ⟨K1350, rfl, hle, hS⟩
  refine s_v rfl rfl rfl ?_
  refine s_nil (qn (s_rets ?_))
  have hq := Option.some.inj hf
  subst hq
  refine s_ret1 rfl (rv_t rfl) ?_
  exact ⟨K1350, _, hle, rfl, Sat.nilG (hS.sel [0] rfl)⟩
end Go.Proofs.Ytgaldjnnfkdohaa
