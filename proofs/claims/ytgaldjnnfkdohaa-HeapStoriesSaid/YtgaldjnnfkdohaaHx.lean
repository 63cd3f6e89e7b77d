/- Functions of the program, and their walks: what each reckons, and that its code reckons it. -/
import Derived.Test.YtgaldjnnfkdohaaHr
set_option linter.unusedVariables false
set_option linter.unusedSimpArgs false
set_option maxHeartbeats 0
set_option maxRecDepth 100000
namespace Go.Proofs.Ytgaldjnnfkdohaa
open Go Go.Fw
noncomputable def bod5 : Code := Try.f5.body.getD .skip
theorem isf5 : IsFn Try.prog 5 Try.f5 bod5 := ⟨Try.func5, rfl, by decide⟩
-- 5 bonsai/bonsailaw15.HeapApart
def bonsailaw15_HeapApart.l0 (fu : Nat) (p1 : (List Int)) : Nat → (List heap_thing) → Int → Int → (List heap_Value) → Int → Option (LR ((List heap_thing) × Int × Int × (List heap_Value)) Bool)
  | 0, _, _, _, _, _ => none
  | k + 1, v273, v274, v275, v276, v277 => bif decide (v277 < (p1.length : Int)) then ((idx p1 v277).bind fun x279 => (heap_Heap_Array.fn (heap_Heap.mk v273 v274 v275) (w32 (Int.tmod x279 6))).bind fun x284 => bif !x284.2.1 then (LR.esc (some false)) else (guardB (roomy v276.length 1 32) (bonsailaw15_HeapApart.l0 fu p1 k x284.2.2.l_ x284.2.2.used_ x284.2.2.most_ (v276 ++ ([x284.1] : List heap_Value)) (w64 (v277 + 1))))) else (some (.brk (v273, v274, v275, v276)))
def bonsailaw15_HeapApart.l2 (fu : Nat) (p5 : Int) (s169 : ((List heap_thing) × Int × Int × (List heap_Value))) (v2247 : Int) : Nat → (List heap_thing) → Int → Int → Int → Option (LR ((List heap_thing) × Int × Int) (LR ((List heap_thing) × Int × Int) Bool))
  | 0, _, _, _, _ => none
  | k + 1, v2568, v2569, v2570, v2571 => (idx s169.2.2.2 v2247).bind fun x2572 => (heap_Heap_Len.fn (heap_Heap.mk v2568 v2569 v2570) x2572).bind fun x2581 => bif decide (v2571 < x2581.1) then ((idx s169.2.2.2 v2247).bind fun x2593 => (heap_Heap_Put.fn x2581.2 x2593 v2571 (heap_Value.mk (w32 (p5 + (w32 (w64 ((w64 (10 * v2247)) + v2571))))) ByteArray.empty 0)).bind fun x2602 => bif !x2602.1 then (LR.esc (LR.esc (some false))) else (bonsailaw15_HeapApart.l2 fu p5 s169 v2247 k x2602.2.l_ x2602.2.used_ x2602.2.most_ (w64 (v2571 + 1)))) else (some (.brk (x2581.2.l_, x2581.2.used_, x2581.2.most_)))
def bonsailaw15_HeapApart.l1 (fu : Nat) (p5 : Int) (s169 : ((List heap_thing) × Int × Int × (List heap_Value))) : Nat → (List heap_thing) → Int → Int → Int → Option (LR ((List heap_thing) × Int × Int) Bool)
  | 0, _, _, _, _ => none
  | k + 1, v2244, v2245, v2246, v2247 => bif decide (v2247 < (s169.2.2.2.length : Int)) then (LR.then (bonsailaw15_HeapApart.l2 fu p5 s169 v2247 fu v2244 v2245 v2246 0) fun s2434 => bonsailaw15_HeapApart.l1 fu p5 s169 k s2434.1 s2434.2.1 s2434.2.2 (w64 (v2247 + 1))) else (some (.brk (v2244, v2245, v2246)))
def bonsailaw15_HeapApart.l4 (fu : Nat) (p5 : Int) (s169 : ((List heap_thing) × Int × Int × (List heap_Value))) (v7381 : Int) : Nat → (List heap_thing) → Int → Int → Int → Option (LR ((List heap_thing) × Int × Int) (LR ((List heap_thing) × Int × Int) Bool))
  | 0, _, _, _, _ => none
  | k + 1, v7907, v7908, v7909, v7910 => (idx s169.2.2.2 v7381).bind fun x7911 => (heap_Heap_Len.fn (heap_Heap.mk v7907 v7908 v7909) x7911).bind fun x7920 => bif decide (v7910 < x7920.1) then ((idx s169.2.2.2 v7381).bind fun x7932 => (heap_Heap_Get.fn x7920.2 x7932 v7910).bind fun x7941 => (bif !x7941.2.1 then (some true) else (some (x7941.1.N != (w32 (p5 + (w32 (w64 ((w64 (10 * v7381)) + v7910)))))))).bind fun s7965 => (bif s7965 then (some true) else (some (!(x7941.1.S.toList == (⟨#[]⟩ : ByteArray).toList)))).bind fun s7978 => (bif s7978 then (some true) else (some (x7941.1.Ref != 0))).bind fun s7991 => bif s7991 then (LR.esc (LR.esc (some false))) else (bonsailaw15_HeapApart.l4 fu p5 s169 v7381 k x7941.2.2.l_ x7941.2.2.used_ x7941.2.2.most_ (w64 (v7910 + 1)))) else (some (.brk (x7920.2.l_, x7920.2.used_, x7920.2.most_)))
def bonsailaw15_HeapApart.l3 (fu : Nat) (p5 : Int) (s169 : ((List heap_thing) × Int × Int × (List heap_Value))) : Nat → (List heap_thing) → Int → Int → Int → Option (LR ((List heap_thing) × Int × Int) Bool)
  | 0, _, _, _, _ => none
  | k + 1, v7378, v7379, v7380, v7381 => bif decide (v7381 < (s169.2.2.2.length : Int)) then (LR.then (bonsailaw15_HeapApart.l4 fu p5 s169 v7381 fu v7378 v7379 v7380 0) fun s7691 => ((idx s169.2.2.2 v7381).bind fun x8250 => (idx s169.2.2.2 v7381).bind fun x8260 => (heap_Heap_Len.fn (heap_Heap.mk s7691.1 s7691.2.1 s7691.2.2) x8260).bind fun x8269 => (heap_Heap_Put.fn x8269.2 x8250 x8269.1 (heap_Value.mk 0 ByteArray.empty 0)).bind fun x8280 => bif x8280.1 then (some (x8280.2.l_, x8280.2.used_, x8280.2.most_, true)) else ((idx s169.2.2.2 v7381).bind fun x8292 => (heap_Heap_Put.fn x8280.2 x8292 (-1) (heap_Value.mk 0 ByteArray.empty 0)).bind fun x8301 => some (x8301.2.l_, x8301.2.used_, x8301.2.most_, x8301.1))).bind fun s8157 => bif s8157.2.2.2 then (LR.esc (some false)) else (bonsailaw15_HeapApart.l3 fu p5 s169 k s8157.1 s8157.2.1 s8157.2.2.1 (w64 (v7381 + 1)))) else (some (.brk (v7378, v7379, v7380)))
def bonsailaw15_HeapApart.fn (fu : Nat) (p1 : (List Int)) (p5 : Int) : Option Bool := (bonsailaw15_known.fn).bind fun x7 => bif !x7 then (some false) else ((bif decide ((p1.length : Int) > 30) then (some true) else (some ((p1.length : Int) == 0))).bind fun s14 => bif s14 then (some true) else ((heap_New.fn 1000).bind fun x16 => LR.then (bonsailaw15_HeapApart.l0 fu p1 fu x16.l_ x16.used_ x16.most_ ([] : List heap_Value) 0) fun s169 => LR.then (bonsailaw15_HeapApart.l1 fu p5 s169 fu s169.1 s169.2.1 s169.2.2.1 0) fun s1462 => LR.then (bonsailaw15_HeapApart.l3 fu p5 s169 fu s1462.1 s1462.2.1 s1462.2.2 0) fun s5466 => (idx s169.2.2.2 0).bind fun x8312 => (heap_Heap_Class.fn (heap_Heap.mk s5466.1 s5466.2.1 s5466.2.2) x8312).bind fun x8321 => (bif x8321.1.toList == (⟨#[]⟩ : ByteArray).toList then ((heap_Heap_Len.fn x8321.2 (heap_Value.mk 0 ByteArray.empty 0)).bind fun x8346 => some (x8346.1 == 0)) else (some false)).bind fun s8344 => some s8344))
theorem bonsailaw15_HeapApart_spec {K : KM} {fu : Nat} {p1 : (List Int)} {p5 : Int} {r : Bool} {a2 : Option Addr} {c3 : Nat} (hf : bonsailaw15_HeapApart.fn fu p1 p5 = some r) (h4 : SlK 5 K a2 c3 p1) : Sp Try.prog 5 [(.slice a2 p1.length c3), (.int .i32 p5)] K [] (fun K' C v => v = (.bool r)) := by
  unfold bonsailaw15_HeapApart.fn at hf
  refine spec_enter isf5 rfl ?_
  intro w L hS
  replace hS : Sat w K (flat [L]) := hS
  have hle := KM.le.refl K
  unfold bod5 Try.f5
  dsimp only [Option.getD_some, argSlots]
  refine s_seq (s_reg ?_)
  refine s_v rfl rfl rfl ?_
  refine s_nil (qn (s_seq (s_seq (s_reg ?_))))
  obtain ⟨x7, hx8, hf⟩ := bs hf
  refine s_call isf12 hS.nilG (bonsailaw15_known_spec hx8) rfl rfl rfl ?_
  rintro _ K9 C11 w hk10 rfl hS
  replace hS := hS.drop1
  refine s_v rfl rfl rfl ?_
  refine s_nil (qn ?_)
  refine s_if rfl (fun hc => ?_) (fun hc => ?_)
  · replace hf := bif_t hc hf
    refine s_seq (s_reg ?_)
    refine s_v rfl rfl rfl ?_
    refine s_nil (qn (s_rets (qrt ?_)))
    have hq := Option.some.inj hf
    subst hq
    refine s_ret1 rfl (rv_t rfl) ?_
    replace hle := hle.trans hk10
    exact ⟨K9, _, hle, rfl, Sat.nilG (hS.sel [0] rfl)⟩
  replace hf := bif_f hc hf
  refine s_skip (qn (s_seq (s_seq (s_reg ?_))))
  iterate 4 refine s_v rfl rfl rfl ?_
  obtain ⟨s14, hst15, hf⟩ := bs hf
  refine r_cut [_, _, _, _] (fun τ w => ∃ (K12 : KM), τ = [(0, (.slice a2 p1.length c3)), (1, (.int .i32 p5)), (25, (.bool s14))] ∧ KM.le K K12 ∧ SlK 5 K12 a2 c3 p1 ∧ Sat w K12 (flat [L])) rfl (fun J hJ => ?_) ?_
  · replace hf := hst15
    cases hc : (decide ((p1.length : Int) > 30))
    · replace hf := bif_f hc hf
      iterate 4 refine s_v rfl rfl rfl ?_
      have hq := Option.some.inj hf
      subst hq
      replace h4 := h4.mono hk10
      replace hle := hle.trans hk10
      refine r_join hJ _ ⟨K9, rfl, hle, h4, hS⟩ ⟨rfl, rfl, rfl, trivial⟩
    replace hf := bif_t hc hf
    refine s_no rfl rfl ?_
    refine s_no rfl rfl ?_
    refine s_no rfl rfl ?_
    refine s_v rfl rfl rfl ?_
    have hq := Option.some.inj hf
    subst hq
    replace h4 := h4.mono hk10
    replace hle := hle.trans hk10
    refine r_join hJ _ ⟨K9, rfl, hle, h4, hS⟩ ⟨rfl, rfl, rfl, trivial⟩
  rintro _ w ⟨K12, rfl, hle, h13, hS⟩
  refine s_nil (qn ?_)
  refine s_if rfl (fun hc => ?_) (fun hc => ?_)
  · replace hf := bif_t hc hf
    refine s_seq (s_reg ?_)
    refine s_v rfl rfl rfl ?_
    refine s_nil (qn (s_rets (qrt ?_)))
    have hq := Option.some.inj hf
    subst hq
    refine s_ret1 rfl (rv_t rfl) ?_
    exact ⟨K12, _, hle, rfl, Sat.nilG (hS.sel [0] rfl)⟩
  replace hf := bif_f hc hf
  refine s_skip (qn (s_seq (s_reg ?_)))
  obtain ⟨x16, hx17, hf⟩ := bs hf
  refine s_call isf13 hS.nilG (heap_New_spec hx17) rfl rfl rfl ?_
  rintro _ K18 _ w hk19 ⟨b21, a22, c23, C26, rfl, h24, rfl⟩ hS
  replace hS := hS.open2
  refine s_v rfl rfl rfl ?_
  refine s_nil (qn (s_seq (s_reg ?_)))
  refine s_v rfl rfl rfl ?_
  refine s_nil (qn ?_)
  obtain ⟨res170, hst171, hm172⟩ := LR.then_some hf
  refine s_cut (fun τ w => ∃ (s169 : ((List heap_thing) × Int × Int × (List heap_Value))) (K158 : KM) (a160 : Option Addr) (c161 : Nat) (C162 : Chunks) (a165 : Option Addr) (c166 : Nat) (C167 : Chunks), res170 = .brk s169 ∧ τ = [(1, (.int .i32 p5)), (5, (.pointer (some ⟨b21, 0, none⟩))), (6, (.slice a165 s169.2.2.2.length c166))] ∧ KM.le K K158 ∧ OwnD 105 D105 K158 (.slice a160 s169.1.length c161) s169.1 C162 ∧ OwnS 32 K158 (.slice a165 s169.2.2.2.length c166) s169.2.2.2 C167 ∧ Sat w K158 (flat [[(b21, Cl [(.slice a160 s169.1.length c161), (.int .i64 s169.2.1), (.int .i64 s169.2.2.1)] 100)], C162, C167, L])) (fun J hJ => ?_) ?_
  · replace hf := hst171
    refine s_seq (s_reg ?_)
    refine s_v rfl rfl rfl ?_
    refine s_nil (qn (s_block ?_))
    replace hS := hS.nilG
    replace h13 := h13.mono hk19
    replace hle := hle.trans hk19
    refine s_loopp (fun n τ w => ∃ (v273 : (List heap_thing)) (v274 : Int) (v275 : Int) (v276 : (List heap_Value)) (v277 : Int) (K261 : KM) (a264 : Option Addr) (c265 : Nat) (C266 : Chunks) (a269 : Option Addr) (c270 : Nat) (C271 : Chunks), bonsailaw15_HeapApart.l0 fu p1 n v273 v274 v275 v276 v277 = some res170 ∧ τ = [(0, (.slice a2 p1.length c3)), (1, (.int .i32 p5)), (5, (.pointer (some ⟨b21, 0, none⟩))), (6, (.slice a269 v276.length c270)), (7, (.int .i64 v277))] ∧ KM.le K K261 ∧ SlK 5 K261 a2 c3 p1 ∧ OwnD 105 D105 K261 (.slice a264 v273.length c265) v273 C266 ∧ OwnS 32 K261 (.slice a269 v276.length c270) v276 C271 ∧ Sat w K261 (flat [[(b21, Cl [(.slice a264 v273.length c265), (.int .i64 v274), (.int .i64 v275)] 100)], C266, C271, L])) _ ⟨x16.l_, x16.used_, x16.most_, ([] : List heap_Value), 0, K18, a22, c23, C26, none, 0, [], hf, rfl, hle, h13, h24, OwnS.nil, (hS.sel [1, 2, 0, 3] rfl)⟩ ⟨rfl, rfl, rfl, rfl, rfl, trivial⟩ ?_ ?_
    · rintro _ _ ⟨_, _, _, _, _, _, _, _, _, _, _, _, hf, _⟩
      exact absurd hf (by simp [bonsailaw15_HeapApart.l0])
    rintro n _ w Y hY ⟨v273, v274, v275, v276, v277, K261, a264, c265, C266, a269, c270, C271, hf, rfl, hle, h262, h263, h268, hS⟩
    rw [bonsailaw15_HeapApart.l0] at hf
    refine s_seq (s_seq (s_reg ?_))
    iterate 4 refine s_v rfl rfl rfl ?_
    refine s_nil (qn ?_)
    refine s_if rfl (fun hc => ?_) (fun hc => ?_)
    · replace hf := bif_t hc hf
      refine s_skip (qn (s_seq (s_block (s_seq (s_reg ?_)))))
      iterate 3 refine s_v rfl rfl rfl ?_
      obtain ⟨x279, hx280, hf⟩ := bs hf
      refine s_ixk h262 rfl hx280 rfl rfl rfl rfl rfl rfl rfl ?_
      rintro b281 o282 _ rfl h283
      refine s_ldk 0 hS h283 rfl rfl rfl rfl ?_
      iterate 2 refine s_v rfl rfl rfl ?_
      obtain ⟨x284, hx285, hf⟩ := bs hf
      refine s_call isf18 (Sat.shut2 hS) (heap_Heap_Array_spec hx285 h263) rfl rfl rfl ?_
      rintro _ K286 _ w hk287 ⟨a289, c290, C293, rfl, h291, rfl⟩ hS
      replace hS := hS.open2
      iterate 3 refine s_v rfl rfl rfl ?_
      refine s_al hS rfl rfl rfl ?_
      intro b295 w hS
      replace hS : Sat w K286 (flat ([(b295, Cl [(.int .i32 0), (.string ByteArray.empty), (.int .i64 0)] 32)] :: _)) := hS
      refine s_st (cs' := (vv32 x284.1)) 0 hS rfl rfl rfl rfl rfl ?_
      intro w hS
      replace hS : Sat w _ (flat [_, _, _, _, _]) := hS
      refine s_v rfl rfl rfl ?_
      refine s_nil (qn (s_seq (s_seq (s_reg ?_))))
      iterate 2 refine s_v rfl rfl rfl ?_
      refine s_nil (qn ?_)
      refine s_if rfl (fun hc => ?_) (fun hc => ?_)
      · replace hf := bif_t hc hf
        refine s_seq (s_reg ?_)
        refine s_v rfl rfl rfl ?_
        refine s_nil (qn ?_)
        replace hS : Sat w K286 (flat [_]) := (hS.sel [4] rfl)
        refine s_rets (qrt (qrb (qrt (qrt (qrb (qrt ?_))))))
        replace hf := LR.esc_some hf hm172
        have hq := Option.some.inj hf
        subst hq
        refine s_ret1 rfl (rv_t rfl) ?_
        replace hle := hle.trans hk287
        exact ⟨K286, _, hle, rfl, Sat.nilG (hS.sel [0] rfl)⟩
      replace hf := bif_f hc hf
      refine s_skip (qn (s_reg ?_))
      refine s_v rfl rfl rfl ?_
      refine s_ld (v := (.agg (vv32 x284.1).toArray)) 0 hS rfl rfl rfl rfl rfl ?_
      refine s_bwc (cs := (vv32 x284.1)) hS rfl rfl rfl rfl rfl rfl rfl rfl rfl rfl ?_
      intro b297 w hS
      obtain ⟨hm299, hf⟩ := gs hf
      replace h268 := h268.mono hk287
      refine s_appv (e := 32) (ys := ([x284.1] : List heap_Value)) 4 0 hS rfl h268 rfl ⟨(vv32 x284.1), _, rfl, rfl, rfl⟩ rfl rfl rfl rfl rfl rfl rfl rfl (roomy_le hm299) rfl rfl rfl ?_
      intro a300 c301 w C302 h303 hS
      replace hS : Sat w _ (flat [_, _, _, _, _, _]) := hS
      refine s_v rfl rfl rfl ?_
      refine s_nil (qbn (qn ?_))
      replace hS : Sat w K286 (flat [_, _, _, _]) := (hS.sel [2, 3, 4, 5] rfl)
      refine s_reg ?_
      iterate 3 refine s_v rfl rfl rfl ?_
      refine s_nil (qn ?_)
      replace h262 := h262.mono hk287
      replace hle := hle.trans hk287
      refine s_join hY _ ⟨x284.2.2.l_, x284.2.2.used_, x284.2.2.most_, (v276 ++ ([x284.1] : List heap_Value)), w64 (v277 + 1), K286, a289, c290, C293, a300, c301, C302, hf, rfl, hle, h262, h291, h303, hS⟩ ⟨rfl, rfl, rfl, rfl, rfl, trivial⟩
    replace hf := bif_f hc hf
    refine s_exit (qxt (qxt (qxb (qn ?_))))
    have hq := Option.some.inj hf
    subst hq
    refine s_join hJ _ ⟨(v273, v274, v275, v276), K261, a264, c265, C266, a269, c270, C271, rfl, rfl, hle, h263, h268, hS⟩ ⟨rfl, rfl, rfl, trivial⟩
  rintro _ w ⟨s169, K158, a160, c161, C162, a165, c166, C167, rfl, rfl, hle, h159, h164, hS⟩
  replace hf := LR.elim_brk hm172
  obtain ⟨res1463, hst1464, hm1465⟩ := LR.then_some hf
  refine s_cut (fun τ w => ∃ (s1462 : ((List heap_thing) × Int × Int)) (K1451 : KM) (a1453 : Option Addr) (c1454 : Nat) (C1455 : Chunks) (C1460 : Chunks), res1463 = .brk s1462 ∧ τ = [(1, (.int .i32 p5)), (5, (.pointer (some ⟨b21, 0, none⟩))), (6, (.slice a165 s169.2.2.2.length c166))] ∧ KM.le K K1451 ∧ OwnD 105 D105 K1451 (.slice a1453 s1462.1.length c1454) s1462.1 C1455 ∧ OwnS 32 K1451 (.slice a165 s169.2.2.2.length c166) s169.2.2.2 C1460 ∧ Sat w K1451 (flat [[(b21, Cl [(.slice a1453 s1462.1.length c1454), (.int .i64 s1462.2.1), (.int .i64 s1462.2.2)] 100)], C1455, C1460, L])) (fun J hJ => ?_) ?_
  · replace hf := hst1464
    refine s_seq (s_reg ?_)
    refine s_v rfl rfl rfl ?_
    refine s_nil (qn (s_block ?_))
    refine s_loopp (fun n τ w => ∃ (v2244 : (List heap_thing)) (v2245 : Int) (v2246 : Int) (v2247 : Int) (K2233 : KM) (a2235 : Option Addr) (c2236 : Nat) (C2237 : Chunks) (C2242 : Chunks), bonsailaw15_HeapApart.l1 fu p5 s169 n v2244 v2245 v2246 v2247 = some res1463 ∧ τ = [(1, (.int .i32 p5)), (5, (.pointer (some ⟨b21, 0, none⟩))), (6, (.slice a165 s169.2.2.2.length c166)), (10, (.int .i64 v2247))] ∧ KM.le K K2233 ∧ OwnD 105 D105 K2233 (.slice a2235 v2244.length c2236) v2244 C2237 ∧ OwnS 32 K2233 (.slice a165 s169.2.2.2.length c166) s169.2.2.2 C2242 ∧ Sat w K2233 (flat [[(b21, Cl [(.slice a2235 v2244.length c2236), (.int .i64 v2245), (.int .i64 v2246)] 100)], C2237, C2242, L])) _ ⟨s169.1, s169.2.1, s169.2.2.1, 0, K158, a160, c161, C162, C167, hf, rfl, hle, h159, h164, hS⟩ ⟨rfl, rfl, rfl, rfl, trivial⟩ ?_ ?_
    · rintro _ _ ⟨_, _, _, _, _, _, _, _, _, hf, _⟩
      exact absurd hf (by simp [bonsailaw15_HeapApart.l1])
    rintro n _ w Y hY ⟨v2244, v2245, v2246, v2247, K2233, a2235, c2236, C2237, C2242, hf, rfl, hle, h2234, h2239, hS⟩
    rw [bonsailaw15_HeapApart.l1] at hf
    refine s_seq (s_seq (s_reg ?_))
    iterate 4 refine s_v rfl rfl rfl ?_
    refine s_nil (qn ?_)
    refine s_if rfl (fun hc => ?_) (fun hc => ?_)
    · replace hf := bif_t hc hf
      refine s_skip (qn ?_)
      obtain ⟨res2435, hst2436, hm2437⟩ := LR.then_some hf
      refine s_cut (fun τ w => ∃ (s2434 : ((List heap_thing) × Int × Int)) (K2423 : KM) (a2425 : Option Addr) (c2426 : Nat) (C2427 : Chunks) (C2432 : Chunks), res2435 = .brk s2434 ∧ τ = [(1, (.int .i32 p5)), (5, (.pointer (some ⟨b21, 0, none⟩))), (6, (.slice a165 s169.2.2.2.length c166)), (10, (.int .i64 v2247))] ∧ KM.le K K2423 ∧ OwnD 105 D105 K2423 (.slice a2425 s2434.1.length c2426) s2434.1 C2427 ∧ OwnS 32 K2423 (.slice a165 s169.2.2.2.length c166) s169.2.2.2 C2432 ∧ Sat w K2423 (flat [[(b21, Cl [(.slice a2425 s2434.1.length c2426), (.int .i64 s2434.2.1), (.int .i64 s2434.2.2)] 100)], C2427, C2432, L])) (fun J hJ => ?_) ?_
      · replace hf := hst2436
        refine s_block (s_seq (s_reg ?_))
        refine s_v rfl rfl rfl ?_
        refine s_nil (qn (s_block ?_))
        refine s_loopp (fun n τ w => ∃ (v2568 : (List heap_thing)) (v2569 : Int) (v2570 : Int) (v2571 : Int) (K2557 : KM) (a2559 : Option Addr) (c2560 : Nat) (C2561 : Chunks) (C2566 : Chunks), bonsailaw15_HeapApart.l2 fu p5 s169 v2247 n v2568 v2569 v2570 v2571 = some res2435 ∧ τ = [(1, (.int .i32 p5)), (5, (.pointer (some ⟨b21, 0, none⟩))), (6, (.slice a165 s169.2.2.2.length c166)), (10, (.int .i64 v2247)), (11, (.int .i64 v2571))] ∧ KM.le K K2557 ∧ OwnD 105 D105 K2557 (.slice a2559 v2568.length c2560) v2568 C2561 ∧ OwnS 32 K2557 (.slice a165 s169.2.2.2.length c166) s169.2.2.2 C2566 ∧ Sat w K2557 (flat [[(b21, Cl [(.slice a2559 v2568.length c2560), (.int .i64 v2569), (.int .i64 v2570)] 100)], C2561, C2566, L])) _ ⟨v2244, v2245, v2246, 0, K2233, a2235, c2236, C2237, C2242, hf, rfl, hle, h2234, h2239, hS⟩ ⟨rfl, rfl, rfl, rfl, rfl, trivial⟩ ?_ ?_
        · rintro _ _ ⟨_, _, _, _, _, _, _, _, _, hf, _⟩
          exact absurd hf (by simp [bonsailaw15_HeapApart.l2])
        rintro n _ w Y hY ⟨v2568, v2569, v2570, v2571, K2557, a2559, c2560, C2561, C2566, hf, rfl, hle, h2558, h2563, hS⟩
        rw [bonsailaw15_HeapApart.l2] at hf
        refine s_seq (s_seq (s_reg ?_))
        iterate 4 refine s_v rfl rfl rfl ?_
        obtain ⟨x2572, hx2573, hf⟩ := bs hf
        refine s_ixo 2 hS rfl h2563 hx2573 rfl rfl rfl rfl rfl rfl rfl ?_
        intro b2574 l2575 cs2578 l2576 hcs_ hC2579 hun2577
        obtain rfl := hcs_
        subst hC2579
        have hq2580 := KM.le.refl K2557
        refine s_ldm (v := (.agg (vv32 x2572).toArray)) 2 0 hS rfl rfl rfl rfl rfl ?_
        obtain ⟨x2581, hx2582, hf⟩ := bs hf
        refine s_call isf25 (Sat.shut2 hS) (heap_Heap_Len_spec hx2582 h2558) rfl rfl rfl ?_
        rintro _ K2583 _ w hk2584 ⟨a2586, c2587, C2590, rfl, h2588, rfl⟩ hS
        replace hS := hS.open2
        refine s_v rfl rfl rfl ?_
        refine s_nil (qn ?_)
        refine s_if rfl (fun hc => ?_) (fun hc => ?_)
        · replace hf := bif_t hc hf
          refine s_skip (qn (s_seq (s_block (s_seq (s_reg ?_)))))
          iterate 3 refine s_v rfl rfl rfl ?_
          replace h2563 := h2563.mono hk2584
          generalize hCg_ : ([(b2574, Cl (l2575 ++ (((vv32 x2572) : List Value) ++ l2576)) 32)] : Chunks) = C2592 at hS h2563
          clear hCg_
          obtain ⟨x2593, hx2594, hf⟩ := bs hf
          refine s_ixo 2 hS rfl h2563 hx2594 rfl rfl rfl rfl rfl rfl rfl ?_
          intro b2595 l2596 cs2599 l2597 hcs_ hC2600 hun2598
          obtain rfl := hcs_
          subst hC2600
          have hq2601 := KM.le.refl K2583
          refine s_ldm (v := (.agg (vv32 x2593).toArray)) 2 0 hS rfl rfl rfl rfl rfl ?_
          iterate 8 refine s_v rfl rfl rfl ?_
          refine s_v (v := (.agg #[(.int .i32 (w32 (p5 + (w32 (w64 ((w64 (10 * v2247)) + v2571)))))), (.string ByteArray.empty), (.int .i64 0)])) rfl rfl rfl ?_
          obtain ⟨x2602, hx2603, hf⟩ := bs hf
          refine s_call isf20 (Sat.shut2 hS) (heap_Heap_Put_spec hx2603 h2588) rfl rfl rfl ?_
          rintro _ K2604 _ w hk2605 ⟨a2607, c2608, C2611, rfl, h2609, rfl⟩ hS
          replace hS := hS.open2
          refine s_v rfl rfl rfl ?_
          refine s_nil (qn ?_)
          refine s_if rfl (fun hc => ?_) (fun hc => ?_)
          · replace hf := bif_t hc hf
            refine s_seq (s_reg ?_)
            refine s_v rfl rfl rfl ?_
            refine s_nil (qn ?_)
            replace hS : Sat w K2604 (flat [_]) := (hS.sel [3] rfl)
            refine s_rets (qrb (qrt (qrt (qrb (qrb (qrt ?_))))))
            replace hf := LR.esc_some hf hm2437
            refine qrt (qrb (qrt ?_))
            replace hf := LR.esc_some hf hm1465
            have hq := Option.some.inj hf
            subst hq
            refine s_ret1 rfl (rv_t rfl) ?_
            replace hle := hle.trans (hk2584.trans hk2605)
            exact ⟨K2604, _, hle, rfl, Sat.nilG (hS.sel [0] rfl)⟩
          replace hf := bif_f hc hf
          refine s_skip (qbn (qn (s_reg ?_)))
          iterate 3 refine s_v rfl rfl rfl ?_
          refine s_nil (qn ?_)
          replace hle := hle.trans (hk2584.trans hk2605)
          replace h2563 := h2563.mono hk2605
          refine s_join hY _ ⟨x2602.2.l_, x2602.2.used_, x2602.2.most_, w64 (v2571 + 1), K2604, a2607, c2608, C2611, [(b2595, Cl (l2596 ++ (((vv32 x2593) : List Value) ++ l2597)) 32)], hf, rfl, hle, h2609, h2563, hS⟩ ⟨rfl, rfl, rfl, rfl, rfl, trivial⟩
        replace hf := bif_f hc hf
        refine s_exit (qxt (qxt (qxb (qbn (qn ?_)))))
        have hq := Option.some.inj hf
        subst hq
        replace h2563 := h2563.mono hk2584
        replace hle := hle.trans hk2584
        refine s_join hJ _ ⟨(x2581.2.l_, x2581.2.used_, x2581.2.most_), K2583, a2586, c2587, C2590, [(b2574, Cl (l2575 ++ (((vv32 x2572) : List Value) ++ l2576)) 32)], rfl, rfl, hle, h2588, h2563, hS⟩ ⟨rfl, rfl, rfl, rfl, trivial⟩
      rintro _ w ⟨s2434, K2423, a2425, c2426, C2427, C2432, rfl, rfl, hle, h2424, h2429, hS⟩
      replace hf := LR.elim_brk hm2437
      refine s_reg ?_
      iterate 3 refine s_v rfl rfl rfl ?_
      refine s_nil (qn ?_)
      refine s_join hY _ ⟨s2434.1, s2434.2.1, s2434.2.2, w64 (v2247 + 1), K2423, a2425, c2426, C2427, C2432, hf, rfl, hle, h2424, h2429, hS⟩ ⟨rfl, rfl, rfl, rfl, trivial⟩
    replace hf := bif_f hc hf
    refine s_exit (qxt (qxt (qxb (qn ?_))))
    have hq := Option.some.inj hf
    subst hq
    refine s_join hJ _ ⟨(v2244, v2245, v2246), K2233, a2235, c2236, C2237, C2242, rfl, rfl, hle, h2234, h2239, hS⟩ ⟨rfl, rfl, rfl, trivial⟩
  rintro _ w ⟨s1462, K1451, a1453, c1454, C1455, C1460, rfl, rfl, hle, h1452, h1457, hS⟩
  replace hf := LR.elim_brk hm1465
  obtain ⟨res5467, hst5468, hm5469⟩ := LR.then_some hf
  refine s_cut (fun τ w => ∃ (s5466 : ((List heap_thing) × Int × Int)) (K5455 : KM) (a5457 : Option Addr) (c5458 : Nat) (C5459 : Chunks) (C5464 : Chunks), res5467 = .brk s5466 ∧ τ = [(5, (.pointer (some ⟨b21, 0, none⟩))), (6, (.slice a165 s169.2.2.2.length c166))] ∧ KM.le K K5455 ∧ OwnD 105 D105 K5455 (.slice a5457 s5466.1.length c5458) s5466.1 C5459 ∧ OwnS 32 K5455 (.slice a165 s169.2.2.2.length c166) s169.2.2.2 C5464 ∧ Sat w K5455 (flat [[(b21, Cl [(.slice a5457 s5466.1.length c5458), (.int .i64 s5466.2.1), (.int .i64 s5466.2.2)] 100)], C5459, C5464, L])) (fun J hJ => ?_) ?_
  · replace hf := hst5468
    refine s_seq (s_reg ?_)
    refine s_v rfl rfl rfl ?_
    refine s_nil (qn (s_block ?_))
    refine s_loopp (fun n τ w => ∃ (v7378 : (List heap_thing)) (v7379 : Int) (v7380 : Int) (v7381 : Int) (K7367 : KM) (a7369 : Option Addr) (c7370 : Nat) (C7371 : Chunks) (C7376 : Chunks), bonsailaw15_HeapApart.l3 fu p5 s169 n v7378 v7379 v7380 v7381 = some res5467 ∧ τ = [(1, (.int .i32 p5)), (5, (.pointer (some ⟨b21, 0, none⟩))), (6, (.slice a165 s169.2.2.2.length c166)), (12, (.int .i64 v7381))] ∧ KM.le K K7367 ∧ OwnD 105 D105 K7367 (.slice a7369 v7378.length c7370) v7378 C7371 ∧ OwnS 32 K7367 (.slice a165 s169.2.2.2.length c166) s169.2.2.2 C7376 ∧ Sat w K7367 (flat [[(b21, Cl [(.slice a7369 v7378.length c7370), (.int .i64 v7379), (.int .i64 v7380)] 100)], C7371, C7376, L])) _ ⟨s1462.1, s1462.2.1, s1462.2.2, 0, K1451, a1453, c1454, C1455, C1460, hf, rfl, hle, h1452, h1457, hS⟩ ⟨rfl, rfl, rfl, rfl, trivial⟩ ?_ ?_
    · rintro _ _ ⟨_, _, _, _, _, _, _, _, _, hf, _⟩
      exact absurd hf (by simp [bonsailaw15_HeapApart.l3])
    rintro n _ w Y hY ⟨v7378, v7379, v7380, v7381, K7367, a7369, c7370, C7371, C7376, hf, rfl, hle, h7368, h7373, hS⟩
    rw [bonsailaw15_HeapApart.l3] at hf
    refine s_seq (s_seq (s_reg ?_))
    iterate 4 refine s_v rfl rfl rfl ?_
    refine s_nil (qn ?_)
    refine s_if rfl (fun hc => ?_) (fun hc => ?_)
    · replace hf := bif_t hc hf
      refine s_skip (qn (s_seq (s_block ?_)))
      obtain ⟨res7692, hst7693, hm7694⟩ := LR.then_some hf
      refine s_cut (fun τ w => ∃ (s7691 : ((List heap_thing) × Int × Int)) (K7680 : KM) (a7682 : Option Addr) (c7683 : Nat) (C7684 : Chunks) (C7689 : Chunks), res7692 = .brk s7691 ∧ τ = [(1, (.int .i32 p5)), (5, (.pointer (some ⟨b21, 0, none⟩))), (6, (.slice a165 s169.2.2.2.length c166)), (12, (.int .i64 v7381))] ∧ KM.le K K7680 ∧ OwnD 105 D105 K7680 (.slice a7682 s7691.1.length c7683) s7691.1 C7684 ∧ OwnS 32 K7680 (.slice a165 s169.2.2.2.length c166) s169.2.2.2 C7689 ∧ Sat w K7680 (flat [[(b21, Cl [(.slice a7682 s7691.1.length c7683), (.int .i64 s7691.2.1), (.int .i64 s7691.2.2)] 100)], C7684, C7689, L])) (fun J hJ => ?_) ?_
      · replace hf := hst7693
        refine s_seq (s_reg ?_)
        refine s_v rfl rfl rfl ?_
        refine s_nil (qn (s_block ?_))
        refine s_loopp (fun n τ w => ∃ (v7907 : (List heap_thing)) (v7908 : Int) (v7909 : Int) (v7910 : Int) (K7896 : KM) (a7898 : Option Addr) (c7899 : Nat) (C7900 : Chunks) (C7905 : Chunks), bonsailaw15_HeapApart.l4 fu p5 s169 v7381 n v7907 v7908 v7909 v7910 = some res7692 ∧ τ = [(1, (.int .i32 p5)), (5, (.pointer (some ⟨b21, 0, none⟩))), (6, (.slice a165 s169.2.2.2.length c166)), (12, (.int .i64 v7381)), (13, (.int .i64 v7910))] ∧ KM.le K K7896 ∧ OwnD 105 D105 K7896 (.slice a7898 v7907.length c7899) v7907 C7900 ∧ OwnS 32 K7896 (.slice a165 s169.2.2.2.length c166) s169.2.2.2 C7905 ∧ Sat w K7896 (flat [[(b21, Cl [(.slice a7898 v7907.length c7899), (.int .i64 v7908), (.int .i64 v7909)] 100)], C7900, C7905, L])) _ ⟨v7378, v7379, v7380, 0, K7367, a7369, c7370, C7371, C7376, hf, rfl, hle, h7368, h7373, hS⟩ ⟨rfl, rfl, rfl, rfl, rfl, trivial⟩ ?_ ?_
        · rintro _ _ ⟨_, _, _, _, _, _, _, _, _, hf, _⟩
          exact absurd hf (by simp [bonsailaw15_HeapApart.l4])
        rintro n _ w Y hY ⟨v7907, v7908, v7909, v7910, K7896, a7898, c7899, C7900, C7905, hf, rfl, hle, h7897, h7902, hS⟩
        rw [bonsailaw15_HeapApart.l4] at hf
        refine s_seq (s_seq (s_reg ?_))
        iterate 4 refine s_v rfl rfl rfl ?_
        obtain ⟨x7911, hx7912, hf⟩ := bs hf
        refine s_ixo 2 hS rfl h7902 hx7912 rfl rfl rfl rfl rfl rfl rfl ?_
        intro b7913 l7914 cs7917 l7915 hcs_ hC7918 hun7916
        obtain rfl := hcs_
        subst hC7918
        have hq7919 := KM.le.refl K7896
        refine s_ldm (v := (.agg (vv32 x7911).toArray)) 2 0 hS rfl rfl rfl rfl rfl ?_
        obtain ⟨x7920, hx7921, hf⟩ := bs hf
        refine s_call isf25 (Sat.shut2 hS) (heap_Heap_Len_spec hx7921 h7897) rfl rfl rfl ?_
        rintro _ K7922 _ w hk7923 ⟨a7925, c7926, C7929, rfl, h7927, rfl⟩ hS
        replace hS := hS.open2
        refine s_v rfl rfl rfl ?_
        refine s_nil (qn ?_)
        refine s_if rfl (fun hc => ?_) (fun hc => ?_)
        · replace hf := bif_t hc hf
          refine s_skip (qn (s_seq (s_block (s_seq (s_reg ?_)))))
          iterate 3 refine s_v rfl rfl rfl ?_
          replace h7902 := h7902.mono hk7923
          generalize hCg_ : ([(b7913, Cl (l7914 ++ (((vv32 x7911) : List Value) ++ l7915)) 32)] : Chunks) = C7931 at hS h7902
          clear hCg_
          obtain ⟨x7932, hx7933, hf⟩ := bs hf
          refine s_ixo 2 hS rfl h7902 hx7933 rfl rfl rfl rfl rfl rfl rfl ?_
          intro b7934 l7935 cs7938 l7936 hcs_ hC7939 hun7937
          obtain rfl := hcs_
          subst hC7939
          have hq7940 := KM.le.refl K7922
          refine s_ldm (v := (.agg (vv32 x7932).toArray)) 2 0 hS rfl rfl rfl rfl rfl ?_
          refine s_v rfl rfl rfl ?_
          obtain ⟨x7941, hx7942, hf⟩ := bs hf
          refine s_call isf22 (Sat.shut2 hS) (heap_Heap_Get_spec hx7942 h7927) rfl rfl rfl ?_
          rintro _ K7943 _ w hk7944 ⟨a7946, c7947, C7950, rfl, h7948, rfl⟩ hS
          replace hS := hS.open2
          iterate 3 refine s_v rfl rfl rfl ?_
          refine s_al hS rfl rfl rfl ?_
          intro b7952 w hS
          replace hS : Sat w K7943 (flat ([(b7952, Cl [(.int .i32 0), (.string ByteArray.empty), (.int .i64 0)] 32)] :: _)) := hS
          refine s_st (cs' := (vv32 x7941.1)) 0 hS rfl rfl rfl rfl rfl ?_
          intro w hS
          replace hS : Sat w _ (flat [_, _, _, _, _]) := hS
          refine s_v rfl rfl rfl ?_
          refine s_nil (qn (s_seq (s_reg ?_)))
          iterate 3 refine s_v rfl rfl rfl ?_
          obtain ⟨s7965, hst7966, hf⟩ := bs hf
          refine r_cut [_, _, _, _, _, _, _, _, _, _, _] (fun τ w => ∃ (K7954 : KM) (C7958 : Chunks) (C7963 : Chunks), τ = [(1, (.int .i32 p5)), (5, (.pointer (some ⟨b21, 0, none⟩))), (6, (.slice a165 s169.2.2.2.length c166)), (12, (.int .i64 v7381)), (13, (.int .i64 v7910)), (14, (.pointer (some ⟨b7952, 0, none⟩))), (121, (.bool s7965))] ∧ KM.le K K7954 ∧ OwnD 105 D105 K7954 (.slice a7946 x7941.2.2.l_.length c7947) x7941.2.2.l_ C7958 ∧ OwnS 32 K7954 (.slice a165 s169.2.2.2.length c166) s169.2.2.2 C7963 ∧ Sat w K7954 (flat [[(b21, Cl (vv100 x7941.2.2 a7946 c7947) 100)], C7958, C7963, [(b7952, Cl (vv32 x7941.1) 32)], L])) rfl (fun J hJ => ?_) ?_
          · replace hf := hst7966
            cases hc : (!x7941.2.1)
            · replace hf := bif_f hc hf
              refine s_v rfl rfl rfl ?_
              refine s_ld 0 hS rfl rfl rfl rfl rfl ?_
              iterate 9 refine s_v rfl rfl rfl ?_
              have hq := Option.some.inj hf
              subst hq
              replace hle := hle.trans (hk7923.trans hk7944)
              replace h7902 := h7902.mono hk7944
              refine r_join hJ _ ⟨K7943, C7950, [(b7934, Cl (l7935 ++ (((vv32 x7932) : List Value) ++ l7936)) 32)], rfl, hle, h7948, h7902, (hS.sel [1, 2, 3, 0, 4] rfl)⟩ ⟨rfl, rfl, rfl, rfl, rfl, rfl, rfl, trivial⟩
            replace hf := bif_t hc hf
            refine s_no rfl rfl ?_
            refine s_no rfl rfl ?_
            refine s_no rfl rfl ?_
            refine s_no rfl rfl ?_
            refine s_no rfl rfl ?_
            refine s_no rfl rfl ?_
            refine s_no rfl rfl ?_
            refine s_no rfl rfl ?_
            refine s_no rfl rfl ?_
            refine s_no rfl rfl ?_
            refine s_v rfl rfl rfl ?_
            have hq := Option.some.inj hf
            subst hq
            replace hle := hle.trans (hk7923.trans hk7944)
            replace h7902 := h7902.mono hk7944
            refine r_join hJ _ ⟨K7943, C7950, [(b7934, Cl (l7935 ++ (((vv32 x7932) : List Value) ++ l7936)) 32)], rfl, hle, h7948, h7902, (hS.sel [1, 2, 3, 0, 4] rfl)⟩ ⟨rfl, rfl, rfl, rfl, rfl, rfl, rfl, trivial⟩
          rintro _ w ⟨K7954, C7958, C7963, rfl, hle, h7955, h7960, hS⟩
          refine s_v rfl rfl rfl ?_
          obtain ⟨s7978, hst7979, hf⟩ := bs hf
          refine r_cut [_, _, _, _] (fun τ w => ∃ (K7967 : KM) (C7971 : Chunks) (C7976 : Chunks), τ = [(1, (.int .i32 p5)), (5, (.pointer (some ⟨b21, 0, none⟩))), (6, (.slice a165 s169.2.2.2.length c166)), (12, (.int .i64 v7381)), (13, (.int .i64 v7910)), (14, (.pointer (some ⟨b7952, 0, none⟩))), (126, (.bool s7978))] ∧ KM.le K K7967 ∧ OwnD 105 D105 K7967 (.slice a7946 x7941.2.2.l_.length c7947) x7941.2.2.l_ C7971 ∧ OwnS 32 K7967 (.slice a165 s169.2.2.2.length c166) s169.2.2.2 C7976 ∧ Sat w K7967 (flat [[(b21, Cl (vv100 x7941.2.2 a7946 c7947) 100)], C7971, C7976, [(b7952, Cl (vv32 x7941.1) 32)], L])) rfl (fun J hJ => ?_) ?_
          · replace hf := hst7979
            cases hc : s7965
            · replace hf := bif_f hc hf
              refine s_v rfl rfl rfl ?_
              refine s_ld 3 hS rfl rfl rfl rfl rfl ?_
              iterate 2 refine s_v rfl rfl rfl ?_
              have hq := Option.some.inj hf
              subst hq
              refine r_join hJ _ ⟨K7954, C7958, C7963, rfl, hle, h7955, h7960, hS⟩ ⟨rfl, rfl, rfl, rfl, rfl, rfl, rfl, trivial⟩
            replace hf := bif_t hc hf
            refine s_no rfl rfl ?_
            refine s_no rfl rfl ?_
            refine s_no rfl rfl ?_
            refine s_v rfl rfl rfl ?_
            have hq := Option.some.inj hf
            subst hq
            refine r_join hJ _ ⟨K7954, C7958, C7963, rfl, hle, h7955, h7960, hS⟩ ⟨rfl, rfl, rfl, rfl, rfl, rfl, rfl, trivial⟩
          rintro _ w ⟨K7967, C7971, C7976, rfl, hle, h7968, h7973, hS⟩
          refine s_v rfl rfl rfl ?_
          obtain ⟨s7991, hst7992, hf⟩ := bs hf
          refine r_cut [_, _, _, _] (fun τ w => ∃ (K7980 : KM) (C7984 : Chunks) (C7989 : Chunks), τ = [(1, (.int .i32 p5)), (5, (.pointer (some ⟨b21, 0, none⟩))), (6, (.slice a165 s169.2.2.2.length c166)), (12, (.int .i64 v7381)), (13, (.int .i64 v7910)), (131, (.bool s7991))] ∧ KM.le K K7980 ∧ OwnD 105 D105 K7980 (.slice a7946 x7941.2.2.l_.length c7947) x7941.2.2.l_ C7984 ∧ OwnS 32 K7980 (.slice a165 s169.2.2.2.length c166) s169.2.2.2 C7989 ∧ Sat w K7980 (flat [[(b21, Cl (vv100 x7941.2.2 a7946 c7947) 100)], C7984, C7989, L])) rfl (fun J hJ => ?_) ?_
          · replace hf := hst7992
            cases hc : s7978
            · replace hf := bif_f hc hf
              refine s_v rfl rfl rfl ?_
              refine s_ld 3 hS rfl rfl rfl rfl rfl ?_
              iterate 2 refine s_v rfl rfl rfl ?_
              have hq := Option.some.inj hf
              subst hq
              refine r_join hJ _ ⟨K7967, C7971, C7976, rfl, hle, h7968, h7973, (hS.sel [0, 1, 2, 4] rfl)⟩ ⟨rfl, rfl, rfl, rfl, rfl, rfl, trivial⟩
            replace hf := bif_t hc hf
            refine s_no rfl rfl ?_
            refine s_no rfl rfl ?_
            refine s_no rfl rfl ?_
            refine s_v rfl rfl rfl ?_
            have hq := Option.some.inj hf
            subst hq
            refine r_join hJ _ ⟨K7967, C7971, C7976, rfl, hle, h7968, h7973, (hS.sel [0, 1, 2, 4] rfl)⟩ ⟨rfl, rfl, rfl, rfl, rfl, rfl, trivial⟩
          rintro _ w ⟨K7980, C7984, C7989, rfl, hle, h7981, h7986, hS⟩
          refine s_nil (qn ?_)
          refine s_if rfl (fun hc => ?_) (fun hc => ?_)
          · replace hf := bif_t hc hf
            refine s_seq (s_reg ?_)
            refine s_v rfl rfl rfl ?_
            refine s_nil (qn ?_)
            replace hS : Sat w K7980 (flat [_]) := (hS.sel [3] rfl)
            refine s_rets (qrb (qrt (qrt (qrb (qrt ?_)))))
            replace hf := LR.esc_some hf hm7694
            refine qrb (qrt (qrt (qrb (qrt ?_))))
            replace hf := LR.esc_some hf hm5469
            have hq := Option.some.inj hf
            subst hq
            refine s_ret1 rfl (rv_t rfl) ?_
            exact ⟨K7980, _, hle, rfl, Sat.nilG (hS.sel [0] rfl)⟩
          replace hf := bif_f hc hf
          refine s_skip (qbn (qn (s_reg ?_)))
          iterate 3 refine s_v rfl rfl rfl ?_
          refine s_nil (qn ?_)
          refine s_join hY _ ⟨x7941.2.2.l_, x7941.2.2.used_, x7941.2.2.most_, w64 (v7910 + 1), K7980, a7946, c7947, C7984, C7989, hf, rfl, hle, h7981, h7986, hS⟩ ⟨rfl, rfl, rfl, rfl, rfl, trivial⟩
        replace hf := bif_f hc hf
        refine s_exit (qxt (qxt (qxb (qn ?_))))
        have hq := Option.some.inj hf
        subst hq
        replace h7902 := h7902.mono hk7923
        replace hle := hle.trans hk7923
        refine s_join hJ _ ⟨(x7920.2.l_, x7920.2.used_, x7920.2.most_), K7922, a7925, c7926, C7929, [(b7913, Cl (l7914 ++ (((vv32 x7911) : List Value) ++ l7915)) 32)], rfl, rfl, hle, h7927, h7902, hS⟩ ⟨rfl, rfl, rfl, rfl, trivial⟩
      rintro _ w ⟨s7691, K7680, a7682, c7683, C7684, C7689, rfl, rfl, hle, h7681, h7686, hS⟩
      replace hf := LR.elim_brk hm7694
      obtain ⟨s8157, hst8158, hf⟩ := bs hf
      refine s_cut (fun τ w => ∃ (K8146 : KM) (a8148 : Option Addr) (c8149 : Nat) (C8150 : Chunks) (C8155 : Chunks), τ = [(1, (.int .i32 p5)), (5, (.pointer (some ⟨b21, 0, none⟩))), (6, (.slice a165 s169.2.2.2.length c166)), (12, (.int .i64 v7381)), (153, (.bool s8157.2.2.2))] ∧ KM.le K K8146 ∧ OwnD 105 D105 K8146 (.slice a8148 s8157.1.length c8149) s8157.1 C8150 ∧ OwnS 32 K8146 (.slice a165 s169.2.2.2.length c166) s169.2.2.2 C8155 ∧ Sat w K8146 (flat [[(b21, Cl [(.slice a8148 s8157.1.length c8149), (.int .i64 s8157.2.1), (.int .i64 s8157.2.2.1)] 100)], C8150, C8155, L])) (fun J hJ => ?_) ?_
      · replace hf := hst8158
        refine d_start [2] [] hS ?_
        intro w hS
        refine d_v 0 (fun _ _ _ _ _ h => h) [2] hS rfl rfl rfl (by kernel_rfl) rfl rfl ?_
        refine d_v 1 (fun _ _ _ _ _ h => h) [2] hS rfl rfl rfl (by kernel_rfl) rfl rfl ?_
        refine d_v 2 (fun _ _ _ _ _ h => h) [2] hS rfl rfl rfl (by kernel_rfl) rfl rfl ?_
        obtain ⟨x8250, hx8251, hf⟩ := bs hf
        refine d_ixo 3 2 (fun _ _ _ _ _ h => h) [2] hS rfl h7686 hx8251 rfl rfl rfl rfl rfl rfl rfl (by kernel_rfl) rfl rfl ?_
        intro b8252 l8253 cs8256 l8254 hcs_ hC8257 hun8255
        obtain rfl := hcs_
        subst hC8257
        have hq8258 := KM.le.refl K7680
        refine d_ldm (v := (.agg (vv32 x8250).toArray)) 4 0 0 (fun _ _ _ _ _ h => h) [2] hS rfl rfl rfl rfl rfl (by kernel_rfl) rfl rfl ?_
        refine d_v 5 (fun _ _ _ _ _ h => h) [2] hS rfl rfl rfl (by kernel_rfl) rfl rfl ?_
        refine d_v 6 (fun _ _ _ _ _ h => h) [2] hS rfl rfl rfl (by kernel_rfl) rfl rfl ?_
        refine d_v 7 (fun _ _ _ _ _ h => h) [2] hS rfl rfl rfl (by kernel_rfl) rfl rfl ?_
        generalize hCg_ : ([(b8252, Cl (l8253 ++ (((vv32 x8250) : List Value) ++ l8254)) 32)] : Chunks) = C8259 at hS h7686 ⊢
        clear hCg_
        obtain ⟨x8260, hx8261, hf⟩ := bs hf
        refine d_ixo 8 2 (fun _ _ _ _ _ h => h) [2] hS rfl h7686 hx8261 rfl rfl rfl rfl rfl rfl rfl (by kernel_rfl) rfl rfl ?_
        intro b8262 l8263 cs8266 l8264 hcs_ hC8267 hun8265
        obtain rfl := hcs_
        subst hC8267
        have hq8268 := KM.le.refl K7680
        refine d_ldm (v := (.agg (vv32 x8260).toArray)) 9 0 0 (fun _ _ _ _ _ h => h) [2] hS rfl rfl rfl rfl rfl (by kernel_rfl) rfl rfl ?_
        refine d_v (v := (.agg #[(.int .i32 0), (.string ByteArray.empty), (.int .i64 0)])) 11 (fun _ _ _ _ _ h => h) [2] hS rfl rfl rfl (by kernel_rfl) rfl rfl ?_
        refine d_op 10 rfl (by kernel_rfl) (by kernel_rfl) (fun X hX => ?_)
        have hlq := KM.le.refl K7680
        obtain ⟨x8269, hx8270, hf⟩ := bs hf
        refine s_call isf25 (Sat.shut2 hS) (heap_Heap_Len_spec hx8270 h7681) rfl rfl rfl ?_
        rintro _ K8271 _ w hk8272 ⟨a8274, c8275, C8278, rfl, h8276, rfl⟩ hS
        replace hS := hS.open2
        replace hlq := hlq.trans hk8272
        refine d_go [2] [2] [] [] hX hS hlq rfl rfl trivial ?_
        refine d_op 12 rfl (by kernel_rfl) (by kernel_rfl) (fun X hX => ?_)
        have hlq := KM.le.refl K8271
        obtain ⟨x8280, hx8281, hf⟩ := bs hf
        refine s_call isf20 (Sat.shut2 hS) (heap_Heap_Put_spec hx8281 h8276) rfl rfl rfl ?_
        rintro _ K8282 _ w hk8283 ⟨a8285, c8286, C8289, rfl, h8287, rfl⟩ hS
        replace hS := hS.open2
        replace hlq := hlq.trans hk8283
        refine d_go [2] [2] [] [] hX hS hlq rfl rfl trivial ?_
        refine d_v 13 (fun _ _ _ _ _ h => h) [2] hS rfl rfl rfl (by kernel_rfl) rfl rfl ?_
        cases hc : x8280.1
        · replace hf := bif_f hc hf
          refine d_v 14 (fun _ _ _ _ _ h => h) [2] hS rfl rfl rfl (by kernel_rfl) rfl rfl ?_
          refine d_v 15 (fun _ _ _ _ _ h => h) [2] hS rfl rfl rfl (by kernel_rfl) rfl rfl ?_
          refine d_v 16 (fun _ _ _ _ _ h => h) [2] hS rfl rfl rfl (by kernel_rfl) rfl rfl ?_
          replace h7686 := h7686.mono (hk8272.trans hk8283)
          generalize hCg_ : ([(b8262, Cl (l8263 ++ (((vv32 x8260) : List Value) ++ l8264)) 32)] : Chunks) = C8291 at hS h7686 ⊢
          clear hCg_
          obtain ⟨x8292, hx8293, hf⟩ := bs hf
          refine d_ixo 17 2 (fun _ _ _ _ _ h => h) [2] hS rfl h7686 hx8293 rfl rfl rfl rfl rfl rfl rfl (by kernel_rfl) rfl rfl ?_
          intro b8294 l8295 cs8298 l8296 hcs_ hC8299 hun8297
          obtain rfl := hcs_
          subst hC8299
          have hq8300 := KM.le.refl K8282
          refine d_ldm (v := (.agg (vv32 x8292).toArray)) 18 0 0 (fun _ _ _ _ _ h => h) [2] hS rfl rfl rfl rfl rfl (by kernel_rfl) rfl rfl ?_
          refine d_v (v := (.agg #[(.int .i32 0), (.string ByteArray.empty), (.int .i64 0)])) 19 (fun _ _ _ _ _ h => h) [2] hS rfl rfl rfl (by kernel_rfl) rfl rfl ?_
          refine d_op 20 rfl (by kernel_rfl) (by kernel_rfl) (fun X hX => ?_)
          have hlq := KM.le.refl K8282
          obtain ⟨x8301, hx8302, hf⟩ := bs hf
          refine s_call isf20 (Sat.shut2 hS) (heap_Heap_Put_spec hx8302 h8287) rfl rfl rfl ?_
          rintro _ K8303 _ w hk8304 ⟨a8306, c8307, C8310, rfl, h8308, rfl⟩ hS
          replace hS := hS.open2
          replace hlq := hlq.trans hk8304
          refine d_go [2] [2] [] [] hX hS hlq rfl rfl trivial ?_
          refine d_v 21 (fun _ _ _ _ _ h => h) [2] hS rfl rfl rfl (by kernel_rfl) rfl rfl ?_
          refine d_end (by kernel_rfl) ?_
          refine qn ?_
          have hq := Option.some.inj hf
          subst hq
          replace hle := hle.trans ((hk8272.trans hk8283).trans hk8304)
          replace h7686 := h7686.mono hk8304
          refine s_join hJ _ ⟨K8303, a8306, c8307, C8310, [(b8294, Cl (l8295 ++ (((vv32 x8292) : List Value) ++ l8296)) 32)], rfl, hle, h8308, h7686, hS⟩ ⟨rfl, rfl, rfl, rfl, rfl, trivial⟩
        replace hf := bif_t hc hf
        refine d_no 14 (fun _ _ _ _ _ h => h) [2] hS rfl rfl (by kernel_rfl) rfl rfl ?_
        refine d_no 15 (fun _ _ _ _ _ h => h) [2] hS rfl rfl (by kernel_rfl) rfl rfl ?_
        refine d_no 16 (fun _ _ _ _ _ h => h) [2] hS rfl rfl (by kernel_rfl) rfl rfl ?_
        refine d_no 17 (fun _ _ _ _ _ h => h) [2] hS rfl rfl (by kernel_rfl) rfl rfl ?_
        refine d_no 18 (fun _ _ _ _ _ h => h) [2] hS rfl rfl (by kernel_rfl) rfl rfl ?_
        refine d_no 19 (fun _ _ _ _ _ h => h) [2] hS rfl rfl (by kernel_rfl) rfl rfl ?_
        refine d_no 20 (fun _ _ _ _ _ h => h) [2] hS rfl rfl (by kernel_rfl) rfl rfl ?_
        refine d_v 21 (fun _ _ _ _ _ h => h) [2] hS rfl rfl rfl (by kernel_rfl) rfl rfl ?_
        refine d_end (by kernel_rfl) ?_
        refine qn ?_
        have hq := Option.some.inj hf
        subst hq
        replace h7686 := h7686.mono (hk8272.trans hk8283)
        replace hle := hle.trans (hk8272.trans hk8283)
        refine s_join hJ _ ⟨K8282, a8285, c8286, C8289, [(b8262, Cl (l8263 ++ (((vv32 x8260) : List Value) ++ l8264)) 32)], rfl, hle, h8287, h7686, hS⟩ ⟨rfl, rfl, rfl, rfl, rfl, trivial⟩
      rintro _ w ⟨K8146, a8148, c8149, C8150, C8155, rfl, hle, h8147, h8152, hS⟩
      refine s_if rfl (fun hc => ?_) (fun hc => ?_)
      · replace hf := bif_t hc hf
        refine s_seq (s_reg ?_)
        refine s_v rfl rfl rfl ?_
        refine s_nil (qn ?_)
        replace hS : Sat w K8146 (flat [_]) := (hS.sel [3] rfl)
        refine s_rets (qrb (qrt (qrt (qrb (qrt ?_)))))
        replace hf := LR.esc_some hf hm5469
        have hq := Option.some.inj hf
        subst hq
        refine s_ret1 rfl (rv_t rfl) ?_
        exact ⟨K8146, _, hle, rfl, Sat.nilG (hS.sel [0] rfl)⟩
      replace hf := bif_f hc hf
      refine s_skip (qbn (qn (s_reg ?_)))
      iterate 3 refine s_v rfl rfl rfl ?_
      refine s_nil (qn ?_)
      refine s_join hY _ ⟨s8157.1, s8157.2.1, s8157.2.2.1, w64 (v7381 + 1), K8146, a8148, c8149, C8150, C8155, hf, rfl, hle, h8147, h8152, hS⟩ ⟨rfl, rfl, rfl, rfl, trivial⟩
    replace hf := bif_f hc hf
    refine s_exit (qxt (qxt (qxb (qn ?_))))
    have hq := Option.some.inj hf
    subst hq
    refine s_join hJ _ ⟨(v7378, v7379, v7380), K7367, a7369, c7370, C7371, C7376, rfl, rfl, hle, h7368, h7373, hS⟩ ⟨rfl, rfl, trivial⟩
  rintro _ w ⟨s5466, K5455, a5457, c5458, C5459, C5464, rfl, rfl, hle, h5456, h5461, hS⟩
  replace hf := LR.elim_brk hm5469
  refine s_seq (s_reg ?_)
  iterate 2 refine s_v rfl rfl rfl ?_
  obtain ⟨x8312, hx8313, hf⟩ := bs hf
  refine s_ixo 2 hS rfl h5461 hx8313 rfl rfl rfl rfl rfl rfl rfl ?_
  intro b8314 l8315 cs8318 l8316 hcs_ hC8319 hun8317
  obtain rfl := hcs_
  subst hC8319
  have hq8320 := KM.le.refl K5455
  refine s_ldm (v := (.agg (vv32 x8312).toArray)) 2 0 hS rfl rfl rfl rfl rfl ?_
  obtain ⟨x8321, hx8322, hf⟩ := bs hf
  refine s_call isf27 (Sat.shut2 hS) (heap_Heap_Class_spec hx8322 h5456) rfl rfl rfl ?_
  rintro _ K8323 _ w hk8324 ⟨a8326, c8327, C8330, rfl, h8328, rfl⟩ hS
  replace hS := hS.open2
  iterate 2 refine s_v rfl rfl rfl ?_
  obtain ⟨s8344, hst8345, hf⟩ := bs hf
  refine r_cut [_, _, _, _, _] (fun τ w => ∃ (K8343 : KM), τ = [(165, (.bool s8344))] ∧ KM.le K K8343 ∧ Sat w K8343 (flat [L])) rfl (fun J hJ => ?_) ?_
  · replace hf := hst8345
    cases hc : (x8321.1.toList == (⟨#[]⟩ : ByteArray).toList)
    · replace hf := bif_f hc hf
      refine s_no rfl rfl ?_
      refine s_no rfl rfl ?_
      refine s_no rfl rfl ?_
      refine s_no rfl rfl ?_
      refine s_v rfl rfl rfl ?_
      have hq := Option.some.inj hf
      subst hq
      replace hle := hle.trans hk8324
      refine r_join hJ _ ⟨K8323, rfl, hle, (hS.sel [3] rfl)⟩ ⟨rfl, trivial⟩
    replace hf := bif_t hc hf
    refine s_v rfl rfl rfl ?_
    refine s_v (v := (.agg #[(.int .i32 0), (.string ByteArray.empty), (.int .i64 0)])) rfl rfl rfl ?_
    obtain ⟨x8346, hx8347, hf⟩ := bs hf
    refine s_call isf25 (Sat.shut2 hS) (heap_Heap_Len_spec hx8347 h8328) rfl rfl rfl ?_
    rintro _ K8348 _ w hk8349 ⟨a8351, c8352, C8355, rfl, h8353, rfl⟩ hS
    replace hS := hS.open2
    iterate 2 refine s_v rfl rfl rfl ?_
    have hq := Option.some.inj hf
    subst hq
    replace hle := hle.trans (hk8324.trans hk8349)
    refine r_join hJ _ ⟨K8348, rfl, hle, (hS.sel [3] rfl)⟩ ⟨rfl, trivial⟩
  rintro _ w ⟨K8343, rfl, hle, hS⟩
  refine s_v rfl rfl rfl ?_
  refine s_nil (qn (s_rets ?_))
  have hq := Option.some.inj hf
  subst hq
  refine s_ret1 rfl (rv_t rfl) ?_
  exact ⟨K8343, _, hle, rfl, Sat.nilG (hS.sel [0] rfl)⟩
end Go.Proofs.Ytgaldjnnfkdohaa
