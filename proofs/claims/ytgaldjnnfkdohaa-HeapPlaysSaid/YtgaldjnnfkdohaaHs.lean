/- Functions of the program, and their walks: what each reckons, and that its code reckons it. -/
import Derived.Test.YtgaldjnnfkdohaaHx
set_option linter.unusedVariables false
set_option linter.unusedSimpArgs false
set_option maxHeartbeats 0
set_option maxRecDepth 100000
namespace Go.Proofs.Ytgaldjnnfkdohaa
open Go Go.Fw
noncomputable def bod6 : Code := Try.f6.body.getD .skip
theorem isf6 : IsFn Try.prog 6 Try.f6 bod6 := ⟨Try.func6, rfl, by decide⟩
-- 6 bonsai/bonsailaw15.HeapStories
def bonsailaw15_HeapStories.l0 (fu : Nat) (p2 : (List Int)) (p6 : (List Int)) (x42 : (heap_Value × Bool × heap_Heap)) (s85 : (Int × Bool)) : Nat → (List heap_thing) → Int → Int → (List Int) → Int → Option (LR ((List heap_thing) × Int × Int × (List Int)) Bool)
  | 0, _, _, _, _, _ => none
  | k + 1, v522, v523, v524, v525, v526 => bif decide (v526 < (p2.length : Int)) then ((idx p2 v526).bind fun x527 => guardB (s85.1 != 0) ((idx p6 v526).bind fun x554 => (heap_Heap_Put.fn (heap_Heap.mk v522 v523 v524) x42.1 (Int.tmod (w64 x527) s85.1) (heap_Value.mk x554 ByteArray.empty 0)).bind fun x559 => bif !x559.1 then (LR.esc (some false)) else ((idx p6 v526).bind fun x570 => (idx v525 (Int.tmod (w64 x527) s85.1)).bind fun x575 => bonsailaw15_HeapStories.l0 fu p2 p6 x42 s85 k x559.2.l_ x559.2.used_ x559.2.most_ (v525.set (Int.tmod (w64 x527) s85.1 : Int).toNat x570) (w64 (v526 + 1))))) else (some (.brk (v522, v523, v524, v525)))
def bonsailaw15_HeapStories.l1 (fu : Nat) (x42 : (heap_Value × Bool × heap_Heap)) (x64 : (heap_Value × Bool × heap_Heap)) (s85 : (Int × Bool)) (s343 : ((List heap_thing) × Int × Int × (List Int))) : Nat → (List heap_thing) → Int → Int → Int → Option (LR ((List heap_thing) × Int × Int) Bool)
  | 0, _, _, _, _ => none
  | k + 1, v1161, v1162, v1163, v1164 => bif decide (v1164 < s85.1) then ((heap_Heap_Get.fn (heap_Heap.mk v1161 v1162 v1163) x42.1 v1164).bind fun x1165 => (heap_Heap_Get.fn x1165.2.2 x64.1 v1164).bind fun x1178 => (bif !x1165.2.1 then (some true) else (bif !x1178.2.1 then (some true) else ((idx s343.2.2.2 v1164).bind fun x1249 => bif x1165.1.N != x1249 then (some true) else (some (!((x1178.1.N == 0) && ((x1178.1.S.toList == ByteArray.empty.toList) && ((x1178.1.Ref == 0) && true)))))))).bind fun s1229 => bif s1229 then (LR.esc (some false)) else (bonsailaw15_HeapStories.l1 fu x42 x64 s85 s343 k x1178.2.2.l_ x1178.2.2.used_ x1178.2.2.most_ (w64 (v1164 + 1)))) else (some (.brk (v1161, v1162, v1163)))
def bonsailaw15_HeapStories.fn (fu : Nat) (p1 : Int) (p2 : (List Int)) (p6 : (List Int)) : Option Bool := (bonsailaw15_known.fn).bind fun x11 => bif !x11 then (some false) else ((bif decide ((p2.length : Int) > 30) then (some true) else (some (decide ((p6.length : Int) < (p2.length : Int))))).bind fun s19 => bif s19 then (some true) else ((heap_New.fn 200).bind fun x21 => guardB (mayMake (w64 ((w64 (Int.tmod p1 10)) + 1)) 48) ((heap_Heap_Object.fn x21 (⟨#[65]⟩ : ByteArray) (List.replicate (w64 ((w64 (Int.tmod p1 10)) + 1)).toNat (GoZero.zero 97 (α := api_Field)))).bind fun x42 => guardB (mayMake (w64 ((w64 (Int.tmod p1 10)) + 1)) 48) ((heap_Heap_Object.fn x42.2.2 (⟨#[66]⟩ : ByteArray) (List.replicate (w64 ((w64 (Int.tmod p1 10)) + 1)).toNat (GoZero.zero 97 (α := api_Field)))).bind fun x64 => (bif !x42.2.1 then (some (w64 ((w64 (Int.tmod p1 10)) + 1), true)) else (some (w64 ((w64 (Int.tmod p1 10)) + 1), !x64.2.1))).bind fun s85 => bif s85.2 then (some false) else (guardB (mayMake s85.1 4) (LR.then (bonsailaw15_HeapStories.l0 fu p2 p6 x42 s85 fu x64.2.2.l_ x64.2.2.used_ x64.2.2.most_ (List.replicate s85.1.toNat (GoZero.zero 21 (α := Int))) 0) fun s343 => LR.then (bonsailaw15_HeapStories.l1 fu x42 x64 s85 s343 fu s343.1 s343.2.1 s343.2.2.1 0) fun s923 => (heap_Heap_Class.fn (heap_Heap.mk s923.1 s923.2.1 s923.2.2) x42.1).bind fun x1258 => (bif x1258.1.toList == (⟨#[65]⟩ : ByteArray).toList then ((heap_Heap_Class.fn x1258.2 x64.1).bind fun x1288 => some (x1288.2.l_, x1288.2.used_, x1288.2.most_, x1288.1.toList == (⟨#[66]⟩ : ByteArray).toList)) else (some (x1258.2.l_, x1258.2.used_, x1258.2.most_, false))).bind fun s1286 => (bif s1286.2.2.2 then ((heap_Heap_Used.fn (heap_Heap.mk s1286.1 s1286.2.1 s1286.2.2.1)).bind fun x1313 => some (x1313.1 == (w64 ((w64 (2 * s85.1)) + 2)))) else (some false)).bind fun s1311 => some s1311))))))
theorem bonsailaw15_HeapStories_spec {K : KM} {fu : Nat} {p1 : Int} {p2 : (List Int)} {p6 : (List Int)} {r : Bool} {a3 : Option Addr} {c4 : Nat} {a7 : Option Addr} {c8 : Nat} (hf : bonsailaw15_HeapStories.fn fu p1 p2 p6 = some r) (h5 : SlK 5 K a3 c4 p2) (h9 : SlK 21 K a7 c8 p6) : Sp Try.prog 6 [(.int .u8 p1), (.slice a3 p2.length c4), (.slice a7 p6.length c8)] K [] (fun K' C v => v = (.bool r)) := by
  unfold bonsailaw15_HeapStories.fn at hf
  refine spec_enter isf6 rfl ?_
  intro w L hS
  replace hS : Sat w K (flat [L]) := hS
  have hle := KM.le.refl K
  unfold bod6 Try.f6
  dsimp only [Option.getD_some, argSlots]
  refine s_seq (s_reg ?_)
  refine s_v rfl rfl rfl ?_
  refine s_nil (qn (s_seq (s_seq (s_reg ?_))))
  obtain ⟨x11, hx12, hf⟩ := bs hf
  refine s_call isf12 hS.nilG (bonsailaw15_known_spec hx12) rfl rfl rfl ?_
  rintro _ K13 C15 w hk14 rfl hS
  replace hS := hS.drop1
  refine s_v rfl rfl rfl ?_
  refine s_nil (qn ?_)
  refine s_if rfl (fun hc => ?_) (fun hc => ?_)
  · replace hf := bif_t hc hf
    refine s_seq (s_reg ?_)
    refine s_v rfl rfl rfl ?_
    refine s_nil (qn (s_rets (qrt ?_)))
    have hq := Option.some.inj hf
    subst hq
    refine s_ret1 rfl (rv_t rfl) ?_
    replace hle := hle.trans hk14
    exact ⟨K13, _, hle, rfl, Sat.nilG (hS.sel [0] rfl)⟩
  replace hf := bif_f hc hf
  refine s_skip (qn (s_seq (s_seq (s_reg ?_))))
  iterate 4 refine s_v rfl rfl rfl ?_
  obtain ⟨s19, hst20, hf⟩ := bs hf
  refine r_cut [_, _, _, _, _, _] (fun τ w => ∃ (K16 : KM), τ = [(0, (.int .u8 p1)), (1, (.slice a3 p2.length c4)), (2, (.slice a7 p6.length c8)), (32, (.bool s19))] ∧ KM.le K K16 ∧ SlK 5 K16 a3 c4 p2 ∧ SlK 21 K16 a7 c8 p6 ∧ Sat w K16 (flat [L])) rfl (fun J hJ => ?_) ?_
  · replace hf := hst20
    cases hc : (decide ((p2.length : Int) > 30))
    · replace hf := bif_f hc hf
      iterate 6 refine s_v rfl rfl rfl ?_
      have hq := Option.some.inj hf
      subst hq
      replace h5 := h5.mono hk14
      replace h9 := h9.mono hk14
      replace hle := hle.trans hk14
      refine r_join hJ _ ⟨K13, rfl, hle, h5, h9, hS⟩ ⟨rfl, rfl, rfl, rfl, trivial⟩
    replace hf := bif_t hc hf
    refine s_no rfl rfl ?_
    refine s_no rfl rfl ?_
    refine s_no rfl rfl ?_
    refine s_no rfl rfl ?_
    refine s_no rfl rfl ?_
    refine s_v rfl rfl rfl ?_
    have hq := Option.some.inj hf
    subst hq
    replace h5 := h5.mono hk14
    replace h9 := h9.mono hk14
    replace hle := hle.trans hk14
    refine r_join hJ _ ⟨K13, rfl, hle, h5, h9, hS⟩ ⟨rfl, rfl, rfl, rfl, trivial⟩
  rintro _ w ⟨K16, rfl, hle, h17, h18, hS⟩
  refine s_nil (qn ?_)
  refine s_if rfl (fun hc => ?_) (fun hc => ?_)
  · replace hf := bif_t hc hf
    refine s_seq (s_reg ?_)
    refine s_v rfl rfl rfl ?_
    refine s_nil (qn (s_rets (qrt ?_)))
    have hq := Option.some.inj hf
    subst hq
    refine s_ret1 rfl (rv_t rfl) ?_
    exact ⟨K16, _, hle, rfl, Sat.nilG (hS.sel [0] rfl)⟩
  replace hf := bif_f hc hf
  refine s_skip (qn (s_seq (s_reg ?_)))
  iterate 5 refine s_v rfl rfl rfl ?_
  refine s_nil (qn (s_seq (s_reg ?_)))
  obtain ⟨x21, hx22, hf⟩ := bs hf
  refine s_call isf13 hS.nilG (heap_New_spec hx22) rfl rfl rfl ?_
  rintro _ K23 _ w hk24 ⟨b26, a27, c28, C31, rfl, h29, rfl⟩ hS
  replace hS := hS.open2
  refine s_v rfl rfl rfl ?_
  refine s_nil (qn (s_seq (s_reg ?_)))
  iterate 2 refine s_v rfl rfl rfl ?_
  obtain ⟨hm33, hf⟩ := gs hf
  refine s_mks (e := 97) (α := api_Field) hS rfl rfl rfl rfl (mayMake_le hm33).1 (mayMake_le hm33).2 rfl rfl rfl rfl rfl rfl ?_
  intro a34 c35 w C36 h37 hS
  obtain ⟨K39, hk40, h41, hS⟩ := h37.freeze (hS.sel [0, 1, 2, 3] rfl)
  replace hS : Sat w _ (flat [_, _, _]) := hS
  obtain ⟨x42, hx43, hf⟩ := bs hf
  replace h29 := h29.mono hk40
  refine s_call isf15 (Sat.shut2 hS) (heap_Heap_Object_spec hx43 h29) rfl rfl rfl ?_
  rintro _ K44 _ w hk45 ⟨a47, c48, C51, rfl, h49, rfl⟩ hS
  replace hS := hS.open2
  iterate 3 refine s_v rfl rfl rfl ?_
  refine s_al hS rfl rfl rfl ?_
  intro b53 w hS
  replace hS : Sat w K44 (flat ([(b53, Cl [(.int .i32 0), (.string ByteArray.empty), (.int .i64 0)] 32)] :: _)) := hS
  refine s_st (cs' := (vv32 x42.1)) 0 hS rfl rfl rfl rfl rfl ?_
  intro w hS
  replace hS : Sat w _ (flat [_, _, _, _]) := hS
  refine s_v rfl rfl rfl ?_
  refine s_nil (qn (s_seq (s_reg ?_)))
  iterate 2 refine s_v rfl rfl rfl ?_
  obtain ⟨hm55, hf⟩ := gs hf
  refine s_mks (e := 97) (α := api_Field) hS rfl rfl rfl rfl (mayMake_le hm55).1 (mayMake_le hm55).2 rfl rfl rfl rfl rfl rfl ?_
  intro a56 c57 w C58 h59 hS
  obtain ⟨K61, hk62, h63, hS⟩ := h59.freeze (hS.sel [0, 1, 2, 3, 4] rfl)
  replace hS : Sat w _ (flat [_, _, _, _]) := hS
  obtain ⟨x64, hx65, hf⟩ := bs hf
  replace h49 := h49.mono hk62
  refine s_call isf15 (Sat.shut2 (hS.sel [1, 2, 0, 3] rfl)) (heap_Heap_Object_spec hx65 h49) rfl rfl rfl ?_
  rintro _ K66 _ w hk67 ⟨a69, c70, C73, rfl, h71, rfl⟩ hS
  replace hS := hS.open2
  iterate 3 refine s_v rfl rfl rfl ?_
  refine s_al hS rfl rfl rfl ?_
  intro b75 w hS
  replace hS : Sat w K66 (flat ([(b75, Cl [(.int .i32 0), (.string ByteArray.empty), (.int .i64 0)] 32)] :: _)) := hS
  refine s_st (cs' := (vv32 x64.1)) 0 hS rfl rfl rfl rfl rfl ?_
  intro w hS
  replace hS : Sat w _ (flat [_, _, _, _, _]) := hS
  refine s_v rfl rfl rfl ?_
  refine s_nil (qn (s_seq (s_seq (s_reg ?_))))
  iterate 3 refine s_v rfl rfl rfl ?_
  obtain ⟨s85, hst86, hf⟩ := bs hf
  have hkk0 := (((hk24.trans hk40).trans hk45).trans hk62).trans hk67
  refine r_cut [_, _, _] (fun τ w => ∃ (K77 : KM) (C83 : Chunks), τ = [(1, (.slice a3 p2.length c4)), (2, (.slice a7 p6.length c8)), (7, (.int .i64 s85.1)), (8, (.pointer (some ⟨b26, 0, none⟩))), (9, (.pointer (some ⟨b53, 0, none⟩))), (11, (.pointer (some ⟨b75, 0, none⟩))), (57, (.bool s85.2))] ∧ KM.le K K77 ∧ SlK 5 K77 a3 c4 p2 ∧ SlK 21 K77 a7 c8 p6 ∧ OwnD 105 D105 K77 (.slice a69 x64.2.2.l_.length c70) x64.2.2.l_ C83 ∧ Sat w K77 (flat [[(b26, Cl (vv100 x64.2.2 a69 c70) 100)], C83, [(b53, Cl (vv32 x42.1) 32)], [(b75, Cl (vv32 x64.1) 32)], L])) rfl (fun J hJ => ?_) ?_
  · replace hf := hst86
    cases hc : (!x42.2.1)
    · replace hf := bif_f hc hf
      iterate 3 refine s_v rfl rfl rfl ?_
      have hq := Option.some.inj hf
      subst hq
      replace h17 := h17.mono hkk0
      replace h18 := h18.mono hkk0
      replace hle := hle.trans hkk0
      refine r_join hJ _ ⟨K66, C73, rfl, hle, h17, h18, h71, (hS.sel [1, 2, 3, 0, 4] rfl)⟩ ⟨rfl, rfl, rfl, rfl, rfl, rfl, rfl, trivial⟩
    replace hf := bif_t hc hf
    refine s_no rfl rfl ?_
    refine s_no rfl rfl ?_
    refine s_v rfl rfl rfl ?_
    have hq := Option.some.inj hf
    subst hq
    replace h17 := h17.mono hkk0
    replace h18 := h18.mono hkk0
    replace hle := hle.trans hkk0
    refine r_join hJ _ ⟨K66, C73, rfl, hle, h17, h18, h71, (hS.sel [1, 2, 3, 0, 4] rfl)⟩ ⟨rfl, rfl, rfl, rfl, rfl, rfl, rfl, trivial⟩
  rintro _ w ⟨K77, C83, rfl, hle, h78, h79, h80, hS⟩
  refine s_nil (qn ?_)
  refine s_if rfl (fun hc => ?_) (fun hc => ?_)
  · replace hf := bif_t hc hf
    refine s_seq (s_reg ?_)
    refine s_v rfl rfl rfl ?_
    refine s_nil (qn ?_)
    replace hS : Sat w K77 (flat [_]) := (hS.sel [4] rfl)
    refine s_rets (qrt ?_)
    have hq := Option.some.inj hf
    subst hq
    refine s_ret1 rfl (rv_t rfl) ?_
    exact ⟨K77, _, hle, rfl, Sat.nilG (hS.sel [0] rfl)⟩
  replace hf := bif_f hc hf
  refine s_skip (qn (s_seq (s_reg ?_)))
  refine s_v rfl rfl rfl ?_
  obtain ⟨hm87, hf⟩ := gs hf
  refine s_mks (e := 21) (α := Int) hS rfl rfl rfl rfl (mayMake_le hm87).1 (mayMake_le hm87).2 rfl rfl rfl rfl rfl rfl ?_
  intro a88 c89 w C90 h91 hS
  refine s_v rfl rfl rfl ?_
  refine s_nil (qn ?_)
  obtain ⟨res344, hst345, hm346⟩ := LR.then_some hf
  refine s_cut (fun τ w => ∃ (s343 : ((List heap_thing) × Int × Int × (List Int))) (K332 : KM) (a334 : Option Addr) (c335 : Nat) (C336 : Chunks) (C341 : Chunks), res344 = .brk s343 ∧ τ = [(7, (.int .i64 s85.1)), (8, (.pointer (some ⟨b26, 0, none⟩))), (9, (.pointer (some ⟨b53, 0, none⟩))), (11, (.pointer (some ⟨b75, 0, none⟩))), (13, (.slice a88 s343.2.2.2.length c89))] ∧ KM.le K K332 ∧ OwnD 105 D105 K332 (.slice a334 s343.1.length c335) s343.1 C336 ∧ OwnS 21 K332 (.slice a88 s343.2.2.2.length c89) s343.2.2.2 C341 ∧ Sat w K332 (flat [[(b26, Cl [(.slice a334 s343.1.length c335), (.int .i64 s343.2.1), (.int .i64 s343.2.2.1)] 100)], C336, [(b53, Cl (vv32 x42.1) 32)], [(b75, Cl (vv32 x64.1) 32)], C341, L])) (fun J hJ => ?_) ?_
  · replace hf := hst345
    refine s_seq (s_reg ?_)
    refine s_v rfl rfl rfl ?_
    refine s_nil (qn (s_block ?_))
    refine s_loopp (fun n τ w => ∃ (v522 : (List heap_thing)) (v523 : Int) (v524 : Int) (v525 : (List Int)) (v526 : Int) (K509 : KM) (a513 : Option Addr) (c514 : Nat) (C515 : Chunks) (C520 : Chunks), bonsailaw15_HeapStories.l0 fu p2 p6 x42 s85 n v522 v523 v524 v525 v526 = some res344 ∧ τ = [(1, (.slice a3 p2.length c4)), (2, (.slice a7 p6.length c8)), (7, (.int .i64 s85.1)), (8, (.pointer (some ⟨b26, 0, none⟩))), (9, (.pointer (some ⟨b53, 0, none⟩))), (11, (.pointer (some ⟨b75, 0, none⟩))), (13, (.slice a88 v525.length c89)), (14, (.int .i64 v526))] ∧ KM.le K K509 ∧ SlK 5 K509 a3 c4 p2 ∧ SlK 21 K509 a7 c8 p6 ∧ OwnD 105 D105 K509 (.slice a513 v522.length c514) v522 C515 ∧ OwnS 21 K509 (.slice a88 v525.length c89) v525 C520 ∧ Sat w K509 (flat [[(b26, Cl [(.slice a513 v522.length c514), (.int .i64 v523), (.int .i64 v524)] 100)], C515, [(b53, Cl (vv32 x42.1) 32)], [(b75, Cl (vv32 x64.1) 32)], C520, L])) _ ⟨x64.2.2.l_, x64.2.2.used_, x64.2.2.most_, (List.replicate s85.1.toNat (GoZero.zero 21 (α := Int))), 0, K77, a69, c70, C83, C90, hf, rfl, hle, h78, h79, h80, h91, (hS.sel [1, 2, 3, 4, 0, 5] rfl)⟩ ⟨rfl, rfl, rfl, rfl, rfl, rfl, rfl, rfl, trivial⟩ ?_ ?_
    · rintro _ _ ⟨_, _, _, _, _, _, _, _, _, _, hf, _⟩
      exact absurd hf (by simp [bonsailaw15_HeapStories.l0])
    rintro n _ w Y hY ⟨v522, v523, v524, v525, v526, K509, a513, c514, C515, C520, hf, rfl, hle, h510, h511, h512, h517, hS⟩
    rw [bonsailaw15_HeapStories.l0] at hf
    refine s_seq (s_seq (s_reg ?_))
    iterate 4 refine s_v rfl rfl rfl ?_
    refine s_nil (qn ?_)
    refine s_if rfl (fun hc => ?_) (fun hc => ?_)
    · replace hf := bif_t hc hf
      refine s_skip (qn (s_seq (s_block (s_seq (s_reg ?_)))))
      iterate 2 refine s_v rfl rfl rfl ?_
      obtain ⟨x527, hx528, hf⟩ := bs hf
      refine s_ixk h510 rfl hx528 rfl rfl rfl rfl rfl rfl rfl ?_
      rintro b529 o530 _ rfl h531
      refine s_ldk 0 hS h531 rfl rfl rfl rfl ?_
      iterate 2 refine s_v rfl rfl rfl ?_
      obtain ⟨hm532, hf⟩ := gs hf
      refine s_rem hm532 rfl rfl rfl rfl ?_
      refine s_v rfl rfl rfl ?_
      refine s_nil (qn (s_seq (s_seq ?_)))
      refine d_start [2] [] hS ?_
      intro w hS
      refine d_v 0 (fun _ _ _ _ _ h => h) [2] hS rfl rfl rfl (by kernel_rfl) rfl rfl ?_
      refine d_ld (v := (.agg (vv32 x42.1).toArray)) 1 0 (fun _ _ _ _ _ h => h) [2] hS rfl rfl rfl rfl rfl (by kernel_rfl) rfl rfl ?_
      refine d_v 2 (fun _ _ _ _ _ h => h) [2] hS rfl rfl rfl (by kernel_rfl) rfl rfl ?_
      refine d_v 3 (fun _ _ _ _ _ h => h) [2] hS rfl rfl rfl (by kernel_rfl) rfl rfl ?_
      refine d_v 4 (fun _ _ _ _ _ h => h) [2] hS rfl rfl rfl (by kernel_rfl) rfl rfl ?_
      obtain ⟨x554, hx555, hf⟩ := bs hf
      refine d_ixk 5 (fun _ _ _ _ _ h => h) [2] hS h511 rfl hx555 rfl rfl rfl rfl rfl rfl rfl (by kernel_rfl) rfl rfl ?_
      rintro b556 o557 _ rfl h558
      refine d_ldk 6 0 (fun _ _ _ _ _ h => h) [2] hS h558 rfl rfl rfl rfl (by kernel_rfl) rfl rfl ?_
      refine d_v (v := (.agg #[(.int .i32 x554), (.string ByteArray.empty), (.int .i64 0)])) 7 (fun _ _ _ _ _ h => h) [2] hS rfl rfl rfl (by kernel_rfl) rfl rfl ?_
      refine d_op 8 rfl (by kernel_rfl) (by kernel_rfl) (fun X hX => ?_)
      have hlq := KM.le.refl K509
      obtain ⟨x559, hx560, hf⟩ := bs hf
      refine s_call isf20 (Sat.shut2 hS) (heap_Heap_Put_spec hx560 h512) rfl rfl rfl ?_
      rintro _ K561 _ w hk562 ⟨a564, c565, C568, rfl, h566, rfl⟩ hS
      replace hS := hS.open2
      replace hlq := hlq.trans hk562
      refine d_go [2] [2] [] [] hX hS hlq rfl rfl trivial ?_
      refine d_v 9 (fun _ _ _ _ _ h => h) [2] hS rfl rfl rfl (by kernel_rfl) rfl rfl ?_
      refine d_end (by kernel_rfl) ?_
      refine qn ?_
      refine s_if rfl (fun hc => ?_) (fun hc => ?_)
      · replace hf := bif_t hc hf
        refine s_seq (s_reg ?_)
        refine s_v rfl rfl rfl ?_
        refine s_nil (qn ?_)
        replace hS : Sat w K561 (flat [_]) := (hS.sel [5] rfl)
        refine s_rets (qrt (qrb (qrt (qrt (qrb (qrt ?_))))))
        replace hf := LR.esc_some hf hm346
        have hq := Option.some.inj hf
        subst hq
        refine s_ret1 rfl (rv_t rfl) ?_
        replace hle := hle.trans hk562
        exact ⟨K561, _, hle, rfl, Sat.nilG (hS.sel [0] rfl)⟩
      replace hf := bif_f hc hf
      refine s_skip (qn (s_reg ?_))
      iterate 4 refine s_v rfl rfl rfl ?_
      obtain ⟨x570, hx571, hf⟩ := bs hf
      replace h511 := h511.mono hk562
      refine s_ixk h511 rfl hx571 rfl rfl rfl rfl rfl rfl rfl ?_
      rintro b572 o573 _ rfl h574
      refine s_ldk 0 hS h574 rfl rfl rfl rfl ?_
      obtain ⟨x575, hx576, hf⟩ := bs hf
      replace h517 := h517.mono hk562
      refine s_ixo 4 hS rfl h517 hx576 rfl rfl rfl rfl rfl rfl rfl ?_
      intro b577 l578 cs581 l579 hcs_ hC582 hun580
      obtain rfl := hcs_
      subst hC582
      have hq583 := KM.le.refl K561
      refine s_stm (cs' := [(.int .i32 x570)]) 4 0 hS rfl rfl rfl rfl rfl ?_
      intro w hS
      replace hS : Sat w _ (flat [_, _, _, _, _, _]) := hS
      have h584 := hun580 K561 _ _ hq583 (show GoData.cells 21 _ x570 _ from rfl)
      have hl585 := OwnS.len h584
      refine s_nil (qbn (qn (s_reg ?_)))
      iterate 3 refine s_v rfl rfl rfl ?_
      refine s_nil (qn ?_)
      replace h510 := h510.mono hk562
      replace hle := hle.trans hk562
      refine s_join hY _ ⟨x559.2.l_, x559.2.used_, x559.2.most_, (v525.set (Int.tmod (w64 x527) s85.1 : Int).toNat x570), w64 (v526 + 1), K561, a564, c565, C568, [(b577, Cl (l578 ++ (([(.int .i32 x570)] : List Value) ++ l579)) 21)], hf, rfl, hle, h510, h511, h566, (OwnS.norm h584), (by (try rw [hl585]); exact hS)⟩ ⟨rfl, rfl, rfl, rfl, rfl, rfl, (by rw [hl585]; rfl), rfl, trivial⟩
    replace hf := bif_f hc hf
    refine s_exit (qxt (qxt (qxb (qn ?_))))
    have hq := Option.some.inj hf
    subst hq
    refine s_join hJ _ ⟨(v522, v523, v524, v525), K509, a513, c514, C515, C520, rfl, rfl, hle, h512, h517, hS⟩ ⟨rfl, rfl, rfl, rfl, rfl, trivial⟩
  rintro _ w ⟨s343, K332, a334, c335, C336, C341, rfl, rfl, hle, h333, h338, hS⟩
  replace hf := LR.elim_brk hm346
  obtain ⟨res924, hst925, hm926⟩ := LR.then_some hf
  refine s_cut (fun τ w => ∃ (s923 : ((List heap_thing) × Int × Int)) (K917 : KM) (a919 : Option Addr) (c920 : Nat) (C921 : Chunks), res924 = .brk s923 ∧ τ = [(7, (.int .i64 s85.1)), (8, (.pointer (some ⟨b26, 0, none⟩))), (9, (.pointer (some ⟨b53, 0, none⟩))), (11, (.pointer (some ⟨b75, 0, none⟩)))] ∧ KM.le K K917 ∧ OwnD 105 D105 K917 (.slice a919 s923.1.length c920) s923.1 C921 ∧ Sat w K917 (flat [[(b26, Cl [(.slice a919 s923.1.length c920), (.int .i64 s923.2.1), (.int .i64 s923.2.2)] 100)], C921, [(b53, Cl (vv32 x42.1) 32)], [(b75, Cl (vv32 x64.1) 32)], L])) (fun J hJ => ?_) ?_
  · replace hf := hst925
    refine s_seq (s_reg ?_)
    refine s_v rfl rfl rfl ?_
    refine s_nil (qn (s_block ?_))
    refine s_loopp (fun n τ w => ∃ (v1161 : (List heap_thing)) (v1162 : Int) (v1163 : Int) (v1164 : Int) (K1150 : KM) (a1152 : Option Addr) (c1153 : Nat) (C1154 : Chunks) (C1159 : Chunks), bonsailaw15_HeapStories.l1 fu x42 x64 s85 s343 n v1161 v1162 v1163 v1164 = some res924 ∧ τ = [(7, (.int .i64 s85.1)), (8, (.pointer (some ⟨b26, 0, none⟩))), (9, (.pointer (some ⟨b53, 0, none⟩))), (11, (.pointer (some ⟨b75, 0, none⟩))), (13, (.slice a88 s343.2.2.2.length c89)), (16, (.int .i64 v1164))] ∧ KM.le K K1150 ∧ OwnD 105 D105 K1150 (.slice a1152 v1161.length c1153) v1161 C1154 ∧ OwnS 21 K1150 (.slice a88 s343.2.2.2.length c89) s343.2.2.2 C1159 ∧ Sat w K1150 (flat [[(b26, Cl [(.slice a1152 v1161.length c1153), (.int .i64 v1162), (.int .i64 v1163)] 100)], C1154, [(b53, Cl (vv32 x42.1) 32)], [(b75, Cl (vv32 x64.1) 32)], C1159, L])) _ ⟨s343.1, s343.2.1, s343.2.2.1, 0, K332, a334, c335, C336, C341, hf, rfl, hle, h333, h338, hS⟩ ⟨rfl, rfl, rfl, rfl, rfl, rfl, trivial⟩ ?_ ?_
    · rintro _ _ ⟨_, _, _, _, _, _, _, _, _, hf, _⟩
      exact absurd hf (by simp [bonsailaw15_HeapStories.l1])
    rintro n _ w Y hY ⟨v1161, v1162, v1163, v1164, K1150, a1152, c1153, C1154, C1159, hf, rfl, hle, h1151, h1156, hS⟩
    rw [bonsailaw15_HeapStories.l1] at hf
    refine s_seq (s_seq (s_reg ?_))
    iterate 3 refine s_v rfl rfl rfl ?_
    refine s_nil (qn ?_)
    refine s_if rfl (fun hc => ?_) (fun hc => ?_)
    · replace hf := bif_t hc hf
      refine s_skip (qn (s_seq (s_block (s_seq (s_reg ?_)))))
      refine s_v rfl rfl rfl ?_
      refine s_ld (v := (.agg (vv32 x42.1).toArray)) 2 hS rfl rfl rfl rfl rfl ?_
      refine s_v rfl rfl rfl ?_
      obtain ⟨x1165, hx1166, hf⟩ := bs hf
      refine s_call isf22 (Sat.shut2 hS) (heap_Heap_Get_spec hx1166 h1151) rfl rfl rfl ?_
      rintro _ K1167 _ w hk1168 ⟨a1170, c1171, C1174, rfl, h1172, rfl⟩ hS
      replace hS := hS.open2
      iterate 3 refine s_v rfl rfl rfl ?_
      refine s_al hS rfl rfl rfl ?_
      intro b1176 w hS
      replace hS : Sat w K1167 (flat ([(b1176, Cl [(.int .i32 0), (.string ByteArray.empty), (.int .i64 0)] 32)] :: _)) := hS
      refine s_st (cs' := (vv32 x1165.1)) 0 hS rfl rfl rfl rfl rfl ?_
      intro w hS
      replace hS : Sat w _ (flat [_, _, _, _, _, _, _]) := hS
      refine s_v rfl rfl rfl ?_
      refine s_nil (qn (s_seq (s_reg ?_)))
      refine s_v rfl rfl rfl ?_
      refine s_ld (v := (.agg (vv32 x64.1).toArray)) 4 hS rfl rfl rfl rfl rfl ?_
      refine s_v rfl rfl rfl ?_
      obtain ⟨x1178, hx1179, hf⟩ := bs hf
      refine s_call isf22 (Sat.shut2 (hS.sel [1, 2, 0, 3, 4, 5, 6] rfl)) (heap_Heap_Get_spec hx1179 h1172) rfl rfl rfl ?_
      rintro _ K1180 _ w hk1181 ⟨a1183, c1184, C1187, rfl, h1185, rfl⟩ hS
      replace hS := hS.open2
      iterate 3 refine s_v rfl rfl rfl ?_
      refine s_al hS rfl rfl rfl ?_
      intro b1189 w hS
      replace hS : Sat w K1180 (flat ([(b1189, Cl [(.int .i32 0), (.string ByteArray.empty), (.int .i64 0)] 32)] :: _)) := hS
      refine s_st (cs' := (vv32 x1178.1)) 0 hS rfl rfl rfl rfl rfl ?_
      intro w hS
      replace hS : Sat w _ (flat [_, _, _, _, _, _, _, _]) := hS
      refine s_v rfl rfl rfl ?_
      refine s_nil (qn ?_)
      obtain ⟨s1229, hst1230, hf⟩ := bs hf
      refine s_cut (fun τ w => ∃ (K1218 : KM) (C1222 : Chunks) (C1227 : Chunks), τ = [(7, (.int .i64 s85.1)), (8, (.pointer (some ⟨b26, 0, none⟩))), (9, (.pointer (some ⟨b53, 0, none⟩))), (11, (.pointer (some ⟨b75, 0, none⟩))), (13, (.slice a88 s343.2.2.2.length c89)), (16, (.int .i64 v1164)), (128, (.bool s1229))] ∧ KM.le K K1218 ∧ OwnD 105 D105 K1218 (.slice a1183 x1178.2.2.l_.length c1184) x1178.2.2.l_ C1222 ∧ OwnS 21 K1218 (.slice a88 s343.2.2.2.length c89) s343.2.2.2 C1227 ∧ Sat w K1218 (flat [[(b26, Cl (vv100 x1178.2.2 a1183 c1184) 100)], C1222, [(b53, Cl (vv32 x42.1) 32)], [(b75, Cl (vv32 x64.1) 32)], C1227, L])) (fun J hJ => ?_) ?_
      · replace hf := hst1230
        refine d_start [0, 3, 6] [] hS ?_
        intro w hS
        refine d_v 0 (fun _ _ _ _ _ h => h) [0, 3, 6] hS rfl rfl rfl (by kernel_rfl) rfl rfl ?_
        refine d_v 1 (fun _ _ _ _ _ h => h) [0, 3, 6] hS rfl rfl rfl (by kernel_rfl) rfl rfl ?_
        refine d_v 2 (fun _ _ _ _ _ h => h) [0, 3, 6] hS rfl rfl rfl (by kernel_rfl) rfl rfl ?_
        cases hc : (!x1165.2.1)
        · replace hf := bif_f hc hf
          refine d_v 3 (fun _ _ _ _ _ h => h) [0, 3, 6] hS rfl rfl rfl (by kernel_rfl) rfl rfl ?_
          refine d_v 4 (fun _ _ _ _ _ h => h) [0, 3, 6] hS rfl rfl rfl (by kernel_rfl) rfl rfl ?_
          refine d_v 5 (fun _ _ _ _ _ h => h) [0, 3, 6] hS rfl rfl rfl (by kernel_rfl) rfl rfl ?_
          refine d_v 6 (fun _ _ _ _ _ h => h) [0, 3, 6] hS rfl rfl rfl (by kernel_rfl) rfl rfl ?_
          cases hc : (!x1178.2.1)
          · replace hf := bif_f hc hf
            refine d_v 7 (fun _ _ _ _ _ h => h) [0, 3, 6] hS rfl rfl rfl (by kernel_rfl) rfl rfl ?_
            refine d_ld 8 1 (fun _ _ _ _ _ h => h) [0, 3, 6] hS rfl rfl rfl rfl rfl (by kernel_rfl) rfl rfl ?_
            refine d_v 9 (fun _ _ _ _ _ h => h) [0, 3, 6] hS rfl rfl rfl (by kernel_rfl) rfl rfl ?_
            refine d_v 10 (fun _ _ _ _ _ h => h) [0, 3, 6] hS rfl rfl rfl (by kernel_rfl) rfl rfl ?_
            obtain ⟨x1249, hx1250, hf⟩ := bs hf
            replace h1156 := h1156.mono (hk1168.trans hk1181)
            refine d_ixo 11 6 (fun _ _ _ _ _ h => h) [0, 3, 6] hS rfl h1156 hx1250 rfl rfl rfl rfl rfl rfl rfl (by kernel_rfl) rfl rfl ?_
            intro b1251 l1252 cs1255 l1253 hcs_ hC1256 hun1254
            obtain rfl := hcs_
            subst hC1256
            have hq1257 := KM.le.refl K1180
            refine d_ldm 12 2 0 (fun _ _ _ _ _ h => h) [0, 3, 6] hS rfl rfl rfl rfl rfl (by kernel_rfl) rfl rfl ?_
            refine d_v 13 (fun _ _ _ _ _ h => h) [0, 3, 6] hS rfl rfl rfl (by kernel_rfl) rfl rfl ?_
            refine d_v 14 (fun _ _ _ _ _ h => h) [0, 3, 6] hS rfl rfl rfl (by kernel_rfl) rfl rfl ?_
            refine d_v 15 (fun _ _ _ _ _ h => h) [0, 3, 6] hS rfl rfl rfl (by kernel_rfl) rfl rfl ?_
            cases hc : (x1165.1.N != x1249)
            · replace hf := bif_f hc hf
              refine d_ld (v := (.agg (vv32 x1178.1).toArray)) 16 0 (fun _ _ _ _ _ h => h) [0, 3, 6] hS rfl rfl rfl rfl rfl (by kernel_rfl) rfl rfl ?_
              refine d_v (v := (.agg #[(.int .i32 0), (.string ByteArray.empty), (.int .i64 0)])) 17 (fun _ _ _ _ _ h => h) [0, 3, 6] hS rfl rfl rfl (by kernel_rfl) rfl rfl ?_
              refine d_nes 18 (fun _ _ _ _ _ h => h) [0, 3, 6] hS e32 rfl rfl rfl rfl rfl (by kernel_rfl) rfl rfl ?_
              refine d_v 19 (fun _ _ _ _ _ h => h) [0, 3, 6] hS rfl rfl rfl (by kernel_rfl) rfl rfl ?_
              refine d_end (by kernel_rfl) ?_
              refine qn ?_
              have hq := Option.some.inj hf
              subst hq
              replace hle := hle.trans (hk1168.trans hk1181)
              refine s_join hJ _ ⟨K1180, C1187, [(b1251, Cl (l1252 ++ (([(.int .i32 x1249)] : List Value) ++ l1253)) 21)], rfl, hle, h1185, h1156, (hS.sel [1, 2, 4, 5, 6, 7] rfl)⟩ ⟨rfl, rfl, rfl, rfl, rfl, rfl, rfl, trivial⟩
            replace hf := bif_t hc hf
            refine d_no 16 (fun _ _ _ _ _ h => h) [0, 3, 6] hS rfl rfl (by kernel_rfl) rfl rfl ?_
            refine d_no 17 (fun _ _ _ _ _ h => h) [0, 3, 6] hS rfl rfl (by kernel_rfl) rfl rfl ?_
            refine d_no 18 (fun _ _ _ _ _ h => h) [0, 3, 6] hS rfl rfl (by kernel_rfl) rfl rfl ?_
            refine d_v 19 (fun _ _ _ _ _ h => h) [0, 3, 6] hS rfl rfl rfl (by kernel_rfl) rfl rfl ?_
            refine d_end (by kernel_rfl) ?_
            refine qn ?_
            have hq := Option.some.inj hf
            subst hq
            replace hle := hle.trans (hk1168.trans hk1181)
            refine s_join hJ _ ⟨K1180, C1187, [(b1251, Cl (l1252 ++ (([(.int .i32 x1249)] : List Value) ++ l1253)) 21)], rfl, hle, h1185, h1156, (hS.sel [1, 2, 4, 5, 6, 7] rfl)⟩ ⟨rfl, rfl, rfl, rfl, rfl, rfl, rfl, trivial⟩
          replace hf := bif_t hc hf
          refine d_no 7 (fun _ _ _ _ _ h => h) [0, 3, 6] hS rfl rfl (by kernel_rfl) rfl rfl ?_
          refine d_no 8 (fun _ _ _ _ _ h => h) [0, 3, 6] hS rfl rfl (by kernel_rfl) rfl rfl ?_
          refine d_no 9 (fun _ _ _ _ _ h => h) [0, 3, 6] hS rfl rfl (by kernel_rfl) rfl rfl ?_
          refine d_no 10 (fun _ _ _ _ _ h => h) [0, 3, 6] hS rfl rfl (by kernel_rfl) rfl rfl ?_
          refine d_no 11 (fun _ _ _ _ _ h => h) [0, 3, 6] hS rfl rfl (by kernel_rfl) rfl rfl ?_
          refine d_no 12 (fun _ _ _ _ _ h => h) [0, 3, 6] hS rfl rfl (by kernel_rfl) rfl rfl ?_
          refine d_no 13 (fun _ _ _ _ _ h => h) [0, 3, 6] hS rfl rfl (by kernel_rfl) rfl rfl ?_
          refine d_v 14 (fun _ _ _ _ _ h => h) [0, 3, 6] hS rfl rfl rfl (by kernel_rfl) rfl rfl ?_
          refine d_v 15 (fun _ _ _ _ _ h => h) [0, 3, 6] hS rfl rfl rfl (by kernel_rfl) rfl rfl ?_
          refine d_no 16 (fun _ _ _ _ _ h => h) [0, 3, 6] hS rfl rfl (by kernel_rfl) rfl rfl ?_
          refine d_no 17 (fun _ _ _ _ _ h => h) [0, 3, 6] hS rfl rfl (by kernel_rfl) rfl rfl ?_
          refine d_no 18 (fun _ _ _ _ _ h => h) [0, 3, 6] hS rfl rfl (by kernel_rfl) rfl rfl ?_
          refine d_v 19 (fun _ _ _ _ _ h => h) [0, 3, 6] hS rfl rfl rfl (by kernel_rfl) rfl rfl ?_
          refine d_end (by kernel_rfl) ?_
          refine qn ?_
          have hq := Option.some.inj hf
          subst hq
          replace h1156 := h1156.mono (hk1168.trans hk1181)
          replace hle := hle.trans (hk1168.trans hk1181)
          refine s_join hJ _ ⟨K1180, C1187, C1159, rfl, hle, h1185, h1156, (hS.sel [1, 2, 4, 5, 6, 7] rfl)⟩ ⟨rfl, rfl, rfl, rfl, rfl, rfl, rfl, trivial⟩
        replace hf := bif_t hc hf
        refine d_no 3 (fun _ _ _ _ _ h => h) [0, 3, 6] hS rfl rfl (by kernel_rfl) rfl rfl ?_
        refine d_no 4 (fun _ _ _ _ _ h => h) [0, 3, 6] hS rfl rfl (by kernel_rfl) rfl rfl ?_
        refine d_v 5 (fun _ _ _ _ _ h => h) [0, 3, 6] hS rfl rfl rfl (by kernel_rfl) rfl rfl ?_
        refine d_v 6 (fun _ _ _ _ _ h => h) [0, 3, 6] hS rfl rfl rfl (by kernel_rfl) rfl rfl ?_
        refine d_no 7 (fun _ _ _ _ _ h => h) [0, 3, 6] hS rfl rfl (by kernel_rfl) rfl rfl ?_
        refine d_no 8 (fun _ _ _ _ _ h => h) [0, 3, 6] hS rfl rfl (by kernel_rfl) rfl rfl ?_
        refine d_no 9 (fun _ _ _ _ _ h => h) [0, 3, 6] hS rfl rfl (by kernel_rfl) rfl rfl ?_
        refine d_no 10 (fun _ _ _ _ _ h => h) [0, 3, 6] hS rfl rfl (by kernel_rfl) rfl rfl ?_
        refine d_no 11 (fun _ _ _ _ _ h => h) [0, 3, 6] hS rfl rfl (by kernel_rfl) rfl rfl ?_
        refine d_no 12 (fun _ _ _ _ _ h => h) [0, 3, 6] hS rfl rfl (by kernel_rfl) rfl rfl ?_
        refine d_no 13 (fun _ _ _ _ _ h => h) [0, 3, 6] hS rfl rfl (by kernel_rfl) rfl rfl ?_
        refine d_v 14 (fun _ _ _ _ _ h => h) [0, 3, 6] hS rfl rfl rfl (by kernel_rfl) rfl rfl ?_
        refine d_v 15 (fun _ _ _ _ _ h => h) [0, 3, 6] hS rfl rfl rfl (by kernel_rfl) rfl rfl ?_
        refine d_no 16 (fun _ _ _ _ _ h => h) [0, 3, 6] hS rfl rfl (by kernel_rfl) rfl rfl ?_
        refine d_no 17 (fun _ _ _ _ _ h => h) [0, 3, 6] hS rfl rfl (by kernel_rfl) rfl rfl ?_
        refine d_no 18 (fun _ _ _ _ _ h => h) [0, 3, 6] hS rfl rfl (by kernel_rfl) rfl rfl ?_
        refine d_v 19 (fun _ _ _ _ _ h => h) [0, 3, 6] hS rfl rfl rfl (by kernel_rfl) rfl rfl ?_
        refine d_end (by kernel_rfl) ?_
        refine qn ?_
        have hq := Option.some.inj hf
        subst hq
        replace h1156 := h1156.mono (hk1168.trans hk1181)
        replace hle := hle.trans (hk1168.trans hk1181)
        refine s_join hJ _ ⟨K1180, C1187, C1159, rfl, hle, h1185, h1156, (hS.sel [1, 2, 4, 5, 6, 7] rfl)⟩ ⟨rfl, rfl, rfl, rfl, rfl, rfl, rfl, trivial⟩
      rintro _ w ⟨K1218, C1222, C1227, rfl, hle, h1219, h1224, hS⟩
      refine s_if rfl (fun hc => ?_) (fun hc => ?_)
      · replace hf := bif_t hc hf
        refine s_seq (s_reg ?_)
        refine s_v rfl rfl rfl ?_
        refine s_nil (qn ?_)
        replace hS : Sat w K1218 (flat [_]) := (hS.sel [5] rfl)
        refine s_rets (qrb (qrt (qrt (qrb (qrt ?_)))))
        replace hf := LR.esc_some hf hm926
        have hq := Option.some.inj hf
        subst hq
        refine s_ret1 rfl (rv_t rfl) ?_
        exact ⟨K1218, _, hle, rfl, Sat.nilG (hS.sel [0] rfl)⟩
      replace hf := bif_f hc hf
      refine s_skip (qbn (qn (s_reg ?_)))
      iterate 3 refine s_v rfl rfl rfl ?_
      refine s_nil (qn ?_)
      refine s_join hY _ ⟨x1178.2.2.l_, x1178.2.2.used_, x1178.2.2.most_, w64 (v1164 + 1), K1218, a1183, c1184, C1222, C1227, hf, rfl, hle, h1219, h1224, hS⟩ ⟨rfl, rfl, rfl, rfl, rfl, rfl, trivial⟩
    replace hf := bif_f hc hf
    refine s_exit (qxt (qxt (qxb (qn ?_))))
    have hq := Option.some.inj hf
    subst hq
    refine s_join hJ _ ⟨(v1161, v1162, v1163), K1150, a1152, c1153, C1154, rfl, rfl, hle, h1151, (hS.sel [0, 1, 2, 3, 5] rfl)⟩ ⟨rfl, rfl, rfl, rfl, trivial⟩
  rintro _ w ⟨s923, K917, a919, c920, C921, rfl, rfl, hle, h918, hS⟩
  replace hf := LR.elim_brk hm926
  refine s_seq (s_reg ?_)
  refine s_v rfl rfl rfl ?_
  refine s_ld (v := (.agg (vv32 x42.1).toArray)) 2 hS rfl rfl rfl rfl rfl ?_
  obtain ⟨x1258, hx1259, hf⟩ := bs hf
  refine s_call isf27 (Sat.shut2 hS) (heap_Heap_Class_spec hx1259 h918) rfl rfl rfl ?_
  rintro _ K1260 _ w hk1261 ⟨a1263, c1264, C1267, rfl, h1265, rfl⟩ hS
  replace hS := hS.open2
  iterate 2 refine s_v rfl rfl rfl ?_
  obtain ⟨s1286, hst1287, hf⟩ := bs hf
  refine r_cut [_, _, _, _, _] (fun τ w => ∃ (K1280 : KM) (a1282 : Option Addr) (c1283 : Nat) (C1284 : Chunks), τ = [(7, (.int .i64 s85.1)), (8, (.pointer (some ⟨b26, 0, none⟩))), (138, (.bool s1286.2.2.2))] ∧ KM.le K K1280 ∧ OwnD 105 D105 K1280 (.slice a1282 s1286.1.length c1283) s1286.1 C1284 ∧ Sat w K1280 (flat [[(b26, Cl [(.slice a1282 s1286.1.length c1283), (.int .i64 s1286.2.1), (.int .i64 s1286.2.2.1)] 100)], C1284, L])) rfl (fun J hJ => ?_) ?_
  · replace hf := hst1287
    cases hc : (x1258.1.toList == (⟨#[65]⟩ : ByteArray).toList)
    · replace hf := bif_f hc hf
      refine s_no rfl rfl ?_
      refine s_no rfl rfl ?_
      refine s_no rfl rfl ?_
      refine s_no rfl rfl ?_
      refine s_v rfl rfl rfl ?_
      have hq := Option.some.inj hf
      subst hq
      replace hle := hle.trans hk1261
      refine r_join hJ _ ⟨K1260, a1263, c1264, C1267, rfl, hle, h1265, (hS.sel [0, 1, 4] rfl)⟩ ⟨rfl, rfl, rfl, trivial⟩
    replace hf := bif_t hc hf
    refine s_v rfl rfl rfl ?_
    refine s_ld (v := (.agg (vv32 x64.1).toArray)) 3 hS rfl rfl rfl rfl rfl ?_
    obtain ⟨x1288, hx1289, hf⟩ := bs hf
    refine s_call isf27 (Sat.shut2 hS) (heap_Heap_Class_spec hx1289 h1265) rfl rfl rfl ?_
    rintro _ K1290 _ w hk1291 ⟨a1293, c1294, C1297, rfl, h1295, rfl⟩ hS
    replace hS := hS.open2
    iterate 2 refine s_v rfl rfl rfl ?_
    have hq := Option.some.inj hf
    subst hq
    replace hle := hle.trans (hk1261.trans hk1291)
    refine r_join hJ _ ⟨K1290, a1293, c1294, C1297, rfl, hle, h1295, (hS.sel [0, 1, 4] rfl)⟩ ⟨rfl, rfl, rfl, trivial⟩
  rintro _ w ⟨K1280, a1282, c1283, C1284, rfl, hle, h1281, hS⟩
  refine s_v rfl rfl rfl ?_
  obtain ⟨s1311, hst1312, hf⟩ := bs hf
  refine r_cut [_, _, _, _, _, _, _] (fun τ w => ∃ (K1310 : KM), τ = [(146, (.bool s1311))] ∧ KM.le K K1310 ∧ Sat w K1310 (flat [L])) rfl (fun J hJ => ?_) ?_
  · replace hf := hst1312
    cases hc : s1286.2.2.2
    · replace hf := bif_f hc hf
      refine s_no rfl rfl ?_
      refine s_no rfl rfl ?_
      refine s_no rfl rfl ?_
      refine s_no rfl rfl ?_
      refine s_no rfl rfl ?_
      refine s_no rfl rfl ?_
      refine s_v rfl rfl rfl ?_
      have hq := Option.some.inj hf
      subst hq
      refine r_join hJ _ ⟨K1280, rfl, hle, (hS.sel [2] rfl)⟩ ⟨rfl, trivial⟩
    replace hf := bif_t hc hf
    refine s_v rfl rfl rfl ?_
    obtain ⟨x1313, hx1314, hf⟩ := bs hf
    refine s_call isf24 (Sat.shut2 hS) (heap_Heap_Used_spec hx1314 h1281) rfl rfl rfl ?_
    rintro _ K1315 _ w hk1316 ⟨a1318, c1319, C1322, rfl, h1320, rfl⟩ hS
    replace hS := hS.open2
    iterate 5 refine s_v rfl rfl rfl ?_
    have hq := Option.some.inj hf
    subst hq
    replace hle := hle.trans hk1316
    refine r_join hJ _ ⟨K1315, rfl, hle, (hS.sel [2] rfl)⟩ ⟨rfl, trivial⟩
  rintro _ w ⟨K1310, rfl, hle, hS⟩
  refine s_v rfl rfl rfl ?_
  refine s_nil (qn (s_rets ?_))
  have hq := Option.some.inj hf
  subst hq
  refine s_ret1 rfl (rv_t rfl) ?_
  exact ⟨K1310, _, hle, rfl, Sat.nilG (hS.sel [0] rfl)⟩
end Go.Proofs.Ytgaldjnnfkdohaa
