/- Functions of the program, and their walks: what each reckons, and that its code reckons it. -/
import Derived.Test.YtgaldjnnfkdohaaHs
set_option linter.unusedVariables false
set_option linter.unusedSimpArgs false
set_option maxHeartbeats 0
set_option maxRecDepth 100000
namespace Go.Proofs.Ytgaldjnnfkdohaa
open Go Go.Fw
noncomputable def bod3 : Code := Try.f3.body.getD .skip
theorem isf3 : IsFn Try.prog 3 Try.f3 bod3 := ⟨Try.func3, rfl, by decide⟩
-- 3 bonsai/bonsailaw15.HeapPlays
def bonsailaw15_HeapPlays.l1 (fu : Nat) (p3 : (List bonsailaw15_Act)) : Nat → (List heap_thing) → Int → Int → Int → Int → (List bonsairef15_thing) → Int → Option (LR Unit (LR Unit Bool))
  | 0, _, _, _, _, _, _, _ => none
  | k + 1, v27884, v27885, v27886, v27887, v27888, v27889, v27890 => bif decide (v27890 < (p3.length : Int)) then ((idx p3 v27890).bind fun x27891 => LR.then (bif (Int.tmod x27891.What 6) == 0 then (guardB (mayMake (Int.tmod x27891.N 4) 48) ((heap_Heap_Object.fn (heap_Heap.mk v27884 v27885 v27886) (⟨#[67]⟩ : ByteArray) (List.replicate (Int.tmod x27891.N 4).toNat (GoZero.zero 97 (α := api_Field)))).bind fun x28173 => (bonsairef15_Heap_Object.fn (bonsairef15_Heap.mk v27887 v27888 v27889) (⟨#[67]⟩ : ByteArray) (w64 (Int.tmod x27891.N 4))).bind fun x28186 => (bonsailaw15_alike.fn x28173.1 x28186.1).bind fun x28199 => (bif !x28199 then (some (w64 ((w64 (Int.tmod x27891.Ref 12)) - 1), w64 ((w64 (Int.tmod x27891.Ref 12)) - 1), true)) else (some (w64 ((w64 (Int.tmod x27891.Ref 12)) - 1), w64 ((w64 (Int.tmod x27891.Ref 12)) - 1), !(x28173.2.1 == x28186.2.1)))).bind fun s28221 => bif s28221.2.2 then (LR.esc (LR.esc (LR.esc (some false)))) else (some (.brk (x28173.2.2.l_, x28173.2.2.used_, x28173.2.2.most_, x28186.2.2.Most, x28186.2.2.Used, x28186.2.2.L, s28221.1, s28221.2.1))))) else (bif (Int.tmod x27891.What 6) == 1 then ((bif decide (x27891.N > 250) then (some (w64 ((w64 (Int.tmod x27891.Ref 12)) - 1), w64 ((w64 (Int.tmod x27891.Ref 12)) - 1), x27891.Raw)) else (some (w64 ((w64 (Int.tmod x27891.Ref 12)) - 1), w64 ((w64 (Int.tmod x27891.Ref 12)) - 1), w32 ((w32 (Int.tmod x27891.N 7)) - 1)))).bind fun s28240 => (heap_Heap_Array.fn (heap_Heap.mk v27884 v27885 v27886) s28240.2.2).bind fun x28242 => (bonsairef15_Heap_Array.fn (bonsairef15_Heap.mk v27887 v27888 v27889) s28240.2.2).bind fun x28255 => (bonsailaw15_alike.fn x28242.1 x28255.1).bind fun x28268 => (bif !x28268 then (some true) else (some (!(x28242.2.1 == x28255.2.1)))).bind fun s28290 => bif s28290 then (LR.esc (LR.esc (LR.esc (some false)))) else (some (.brk (x28242.2.2.l_, x28242.2.2.used_, x28242.2.2.most_, x28255.2.2.Most, x28255.2.2.Used, x28255.2.2.L, s28240.1, s28240.2.1)))) else ((bif (Int.tmod x27891.What 6) == 2 then (some (w64 ((w64 (Int.tmod x27891.Ref 12)) - 1), w64 ((w64 (Int.tmod x27891.Ref 12)) - 1), w64 ((w64 (Int.tmod x27891.I 6)) - 1), (Int.tmod x27891.What 6) == 2)) else (some (w64 ((w64 (Int.tmod x27891.Ref 12)) - 1), w64 ((w64 (Int.tmod x27891.Ref 12)) - 1), w64 ((w64 (Int.tmod x27891.I 6)) - 1), (Int.tmod x27891.What 6) == 3))).bind fun s28309 => bif s28309.2.2.2 then ((heap_Heap_Put.fn (heap_Heap.mk v27884 v27885 v27886) (heap_Value.mk 0 ByteArray.empty s28309.1) s28309.2.2.1 (heap_Value.mk x27891.Raw (⟨#[115]⟩ : ByteArray) 3)).bind fun x28333 => (bonsairef15_Heap_Put.fn (bonsairef15_Heap.mk v27887 v27888 v27889) (bonsairef15_Value.mk 0 ByteArray.empty s28309.2.1) s28309.2.2.1 (bonsairef15_Value.mk x27891.Raw (⟨#[115]⟩ : ByteArray) 3)).bind fun x28344 => bif !(x28333.1 == x28344.1) then (LR.esc (LR.esc (LR.esc (some false)))) else (some (.brk (x28333.2.l_, x28333.2.used_, x28333.2.most_, x28344.2.Most, x28344.2.Used, x28344.2.L, s28309.1, s28309.2.1)))) else ((heap_Heap_Get.fn (heap_Heap.mk v27884 v27885 v27886) (heap_Value.mk 0 ByteArray.empty s28309.1) s28309.2.2.1).bind fun x28355 => (bonsairef15_Heap_Get.fn (bonsairef15_Heap.mk v27887 v27888 v27889) (bonsairef15_Value.mk 0 ByteArray.empty s28309.2.1) s28309.2.2.1).bind fun x28368 => (bonsailaw15_alike.fn x28355.1 x28368.1).bind fun x28381 => (bif !x28381 then (some true) else (some (!(x28355.2.1 == x28368.2.1)))).bind fun s28403 => bif s28403 then (LR.esc (LR.esc (LR.esc (some false)))) else (some (.brk (x28355.2.2.l_, x28355.2.2.used_, x28355.2.2.most_, x28368.2.2.Most, x28368.2.2.Used, x28368.2.2.L, s28309.1, s28309.2.1))))))) fun s28160 => ((heap_Heap_Used.fn (heap_Heap.mk s28160.1 s28160.2.1 s28160.2.2.1)).bind fun x28589 => bif x28589.1 != s28160.2.2.2.2.1 then (some (x28589.2.l_, x28589.2.used_, x28589.2.most_, s28160.2.2.2.1, s28160.2.2.2.2.1, s28160.2.2.2.2.2.1, true)) else ((heap_Heap_Len.fn x28589.2 (heap_Value.mk 0 ByteArray.empty s28160.2.2.2.2.2.2.1)).bind fun x28600 => (bonsairef15_Heap_Len.fn (bonsairef15_Heap.mk s28160.2.2.2.1 s28160.2.2.2.2.1 s28160.2.2.2.2.2.1) (bonsairef15_Value.mk 0 ByteArray.empty s28160.2.2.2.2.2.2.2)).bind fun x28611 => bif x28600.1 != x28611.1 then (some (x28600.2.l_, x28600.2.used_, x28600.2.most_, x28611.2.Most, x28611.2.Used, x28611.2.L, true)) else ((heap_Heap_Class.fn x28600.2 (heap_Value.mk 0 ByteArray.empty s28160.2.2.2.2.2.2.1)).bind fun x28622 => (bonsairef15_Heap_Class.fn x28611.2 (bonsairef15_Value.mk 0 ByteArray.empty s28160.2.2.2.2.2.2.2)).bind fun x28633 => some (x28622.2.l_, x28622.2.used_, x28622.2.most_, x28633.2.Most, x28633.2.Used, x28633.2.L, !(x28622.1.toList == x28633.1.toList))))).bind fun s28532 => bif s28532.2.2.2.2.2.2 then (LR.esc (LR.esc (some false))) else (bonsailaw15_HeapPlays.l1 fu p3 k s28532.1 s28532.2.1 s28532.2.2.1 s28532.2.2.2.1 s28532.2.2.2.2.1 s28532.2.2.2.2.2.1 (w64 (v27890 + 1)))) else (some (.brk ()))
def bonsailaw15_HeapPlays.l0 (fu : Nat) (p3 : (List bonsailaw15_Act)) : Nat → (List Int) → Int → Option (LR Unit Bool)
  | 0, _, _ => none
  | k + 1, v23882, v23883 => bif decide (v23883 < 2) then (LR.then ((idx v23882 v23883).bind fun x26270 => (heap_New.fn x26270).bind fun x26279 => (bonsairef15_NewHeap.fn x26270).bind fun x26291 => bonsailaw15_HeapPlays.l1 fu p3 fu x26279.l_ x26279.used_ x26279.most_ x26291.Most x26291.Used x26291.L 0) fun s26266 => bonsailaw15_HeapPlays.l0 fu p3 k v23882 (w64 (v23883 + 1))) else (some (.brk ()))
def bonsailaw15_HeapPlays.fn (fu : Nat) (p1 : Int) (p2 : Int) (p3 : (List bonsailaw15_Act)) : Option Bool := (bonsailaw15_known.fn).bind fun x8 => bif !x8 then (some false) else (bif decide ((p3.length : Int) > 50) then (some true) else (LR.then (bonsailaw15_HeapPlays.l0 fu p3 fu ([w64 (Int.tmod p2 40), if 100 < p1 then 100 else p1] : List Int) 0) fun s14327 => some true))
theorem bonsailaw15_HeapPlays_spec {K : KM} {fu : Nat} {p1 : Int} {p2 : Int} {p3 : (List bonsailaw15_Act)} {r : Bool} {a4 : Option Addr} {c5 : Nat} (hf : bonsailaw15_HeapPlays.fn fu p1 p2 p3 = some r) (h6 : SlK 30 K a4 c5 p3) : Sp Try.prog 3 [(.int .i64 p1), (.int .u8 p2), (.slice a4 p3.length c5)] K [] (fun K' C v => v = (.bool r)) := by
  unfold bonsailaw15_HeapPlays.fn at hf
  refine spec_enter isf3 rfl ?_
  intro w L hS
  replace hS : Sat w K (flat [L]) := hS
  have hle := KM.le.refl K
  unfold bod3 Try.f3
  dsimp only [Option.getD_some, argSlots]
  refine s_seq (s_reg ?_)
  refine s_v rfl rfl rfl ?_
  refine s_nil (qn (s_seq (s_seq (s_reg ?_))))
  obtain ⟨x8, hx9, hf⟩ := bs hf
  refine s_call isf12 hS.nilG (bonsailaw15_known_spec hx9) rfl rfl rfl ?_
  rintro _ K10 C12 w hk11 rfl hS
  replace hS := hS.drop1
  refine s_v rfl rfl rfl ?_
  refine s_nil (qn ?_)
  refine s_if rfl (fun hc => ?_) (fun hc => ?_)
  · replace hf := bif_t hc hf
    refine s_seq (s_reg ?_)
    refine s_v rfl rfl rfl ?_
    refine s_nil (qn (s_rets (qrt ?_)))
    have hq := Option.some.inj hf
    subst hq
    refine s_ret1 rfl (rv_t rfl) ?_
    replace hle := hle.trans hk11
    exact ⟨K10, _, hle, rfl, Sat.nilG (hS.sel [0] rfl)⟩
  replace hf := bif_f hc hf
  refine s_skip (qn (s_seq (s_seq (s_reg ?_))))
  iterate 3 refine s_v rfl rfl rfl ?_
  refine s_nil (qn ?_)
  refine s_if rfl (fun hc => ?_) (fun hc => ?_)
  · replace hf := bif_t hc hf
    refine s_seq (s_reg ?_)
    refine s_v rfl rfl rfl ?_
    refine s_nil (qn (s_rets (qrt ?_)))
    have hq := Option.some.inj hf
    subst hq
    refine s_ret1 rfl (rv_t rfl) ?_
    replace hle := hle.trans hk11
    exact ⟨K10, _, hle, rfl, Sat.nilG (hS.sel [0] rfl)⟩
  replace hf := bif_f hc hf
  refine s_skip (qn ?_)
  obtain ⟨res14328, hst14329, hm14330⟩ := LR.then_some hf
  refine s_cut (fun τ w => ∃ (s14327 : Unit) (K14326 : KM), res14328 = .brk s14327 ∧ τ = [] ∧ KM.le K K14326 ∧ Sat w K14326 (flat [L])) (fun J hJ => ?_) ?_
  · replace hf := hst14329
    refine s_seq (s_reg ?_)
    iterate 5 refine s_v rfl rfl rfl ?_
    refine s_bwc (cs := [(.int .i64 (w64 (Int.tmod p2 40))), (.int .i64 (if 100 < p1 then 100 else p1))]) hS rfl rfl rfl rfl rfl rfl rfl rfl rfl rfl ?_
    intro b14331 w hS
    iterate 2 refine s_v rfl rfl rfl ?_
    refine s_nil (qn (s_block ?_))
    have h23884 : OwnS 3 K10 (.slice (some ⟨b14331, 0, none⟩) 2 2) ([w64 (Int.tmod p2 40), if 100 < p1 then 100 else p1] : List Int) [(b14331, Cl [(.int .i64 (w64 (Int.tmod p2 40))), (.int .i64 (if 100 < p1 then 100 else p1))] 3)] := OwnS.lit ⟨[(.int .i64 (w64 (Int.tmod p2 40)))], _, rfl, rfl, ⟨[(.int .i64 (if 100 < p1 then 100 else p1))], _, rfl, rfl, rfl⟩⟩ rfl rfl
    replace h6 := h6.mono hk11
    replace hle := hle.trans hk11
    refine s_loopp (fun n τ w => ∃ (v23882 : (List Int)) (v23883 : Int) (K23875 : KM) (a23878 : Option Addr) (c23879 : Nat) (C23880 : Chunks), bonsailaw15_HeapPlays.l0 fu p3 n v23882 v23883 = some res14328 ∧ τ = [(2, (.slice a4 p3.length c5)), (39, (.slice a23878 v23882.length c23879)), (40, (.int .i64 2)), (41, (.int .i64 v23883))] ∧ KM.le K K23875 ∧ SlK 30 K23875 a4 c5 p3 ∧ OwnS 3 K23875 (.slice a23878 v23882.length c23879) v23882 C23880 ∧ Sat w K23875 (flat [C23880, L])) _ ⟨([w64 (Int.tmod p2 40), if 100 < p1 then 100 else p1] : List Int), 0, K10, (some ⟨b14331, 0, none⟩), 2, [(b14331, Cl [(.int .i64 (w64 (Int.tmod p2 40))), (.int .i64 (if 100 < p1 then 100 else p1))] 3)], hf, rfl, hle, h6, h23884, hS⟩ ⟨rfl, rfl, rfl, rfl, trivial⟩ ?_ ?_
    · rintro _ _ ⟨_, _, _, _, _, _, hf, _⟩
      exact absurd hf (by simp [bonsailaw15_HeapPlays.l0])
    rintro n _ w Y hY ⟨v23882, v23883, K23875, a23878, c23879, C23880, hf, rfl, hle, h23876, h23877, hS⟩
    rw [bonsailaw15_HeapPlays.l0] at hf
    refine s_seq (s_reg ?_)
    refine s_v rfl rfl rfl ?_
    refine s_nil (qn (s_seq ?_))
    refine s_if rfl (fun hc => ?_) (fun hc => ?_)
    · replace hf := bif_t hc hf
      refine s_skip (qn ?_)
      obtain ⟨res26267, hst26268, hm26269⟩ := LR.then_some hf
      refine s_cut (fun τ w => ∃ (s26266 : Unit) (K26259 : KM) (C26264 : Chunks), res26267 = .brk s26266 ∧ τ = [(2, (.slice a4 p3.length c5)), (39, (.slice a23878 v23882.length c23879)), (40, (.int .i64 2)), (41, (.int .i64 v23883))] ∧ KM.le K K26259 ∧ SlK 30 K26259 a4 c5 p3 ∧ OwnS 3 K26259 (.slice a23878 v23882.length c23879) v23882 C26264 ∧ Sat w K26259 (flat [C26264, L])) (fun J hJ => ?_) ?_
      · replace hf := hst26268
        refine s_block (s_seq (s_reg ?_))
        obtain ⟨x26270, hx26271, hf⟩ := bs hf
        refine s_ixo 0 hS rfl h23877 hx26271 rfl rfl rfl rfl rfl rfl rfl ?_
        intro b26272 l26273 cs26276 l26274 hcs_ hC26277 hun26275
        obtain rfl := hcs_
        subst hC26277
        have hq26278 := KM.le.refl K23875
        refine s_ldm 0 0 hS rfl rfl rfl rfl rfl ?_
        refine s_v rfl rfl rfl ?_
        refine s_nil (qn (s_seq (s_reg ?_)))
        refine s_v rfl rfl rfl ?_
        obtain ⟨x26279, hx26280, hf⟩ := bs hf
        refine s_call isf13 hS.nilG (heap_New_spec hx26280) rfl rfl rfl ?_
        rintro _ K26281 _ w hk26282 ⟨b26284, a26285, c26286, C26289, rfl, h26287, rfl⟩ hS
        replace hS := hS.open2
        refine s_v rfl rfl rfl ?_
        obtain ⟨x26291, hx26292, hf⟩ := bs hf
        refine s_call isf14 hS.nilG (bonsairef15_NewHeap_spec hx26292) rfl rfl rfl ?_
        rintro _ K26293 _ w hk26294 ⟨b26296, a26297, c26298, C26301, rfl, h26299, rfl⟩ hS
        replace hS := hS.open2
        iterate 2 refine s_v rfl rfl rfl ?_
        refine s_nil (qn (s_seq (s_reg ?_)))
        refine s_v rfl rfl rfl ?_
        refine s_nil (qn (s_block ?_))
        replace h23876 := h23876.mono (hk26282.trans hk26294)
        replace h23877 := h23877.mono (hk26282.trans hk26294)
        replace hle := hle.trans (hk26282.trans hk26294)
        replace h26287 := h26287.mono hk26294
        refine s_loopp (fun n τ w => ∃ (v27884 : (List heap_thing)) (v27885 : Int) (v27886 : Int) (v27887 : Int) (v27888 : Int) (v27889 : (List bonsairef15_thing)) (v27890 : Int) (K27867 : KM) (a27870 : Option Addr) (c27871 : Nat) (C27872 : Chunks) (a27875 : Option Addr) (c27876 : Nat) (C27877 : Chunks) (C27882 : Chunks), bonsailaw15_HeapPlays.l1 fu p3 n v27884 v27885 v27886 v27887 v27888 v27889 v27890 = some res26267 ∧ τ = [(2, (.slice a4 p3.length c5)), (9, (.pointer (some ⟨b26284, 0, none⟩))), (10, (.pointer (some ⟨b26296, 0, none⟩))), (11, (.int .i64 v27890)), (39, (.slice a23878 v23882.length c23879)), (40, (.int .i64 2)), (41, (.int .i64 v23883))] ∧ KM.le K K27867 ∧ SlK 30 K27867 a4 c5 p3 ∧ OwnD 105 D105 K27867 (.slice a27870 v27884.length c27871) v27884 C27872 ∧ OwnD 108 D108 K27867 (.slice a27875 v27889.length c27876) v27889 C27877 ∧ OwnS 3 K27867 (.slice a23878 v23882.length c23879) v23882 C27882 ∧ Sat w K27867 (flat [[(b26284, Cl [(.slice a27870 v27884.length c27871), (.int .i64 v27885), (.int .i64 v27886)] 100)], C27872, [(b26296, Cl [(.int .i64 v27887), (.int .i64 v27888), (.slice a27875 v27889.length c27876)] 49)], C27877, C27882, L])) _ ⟨x26279.l_, x26279.used_, x26279.most_, x26291.Most, x26291.Used, x26291.L, 0, K26293, a26285, c26286, C26289, a26297, c26298, C26301, [(b26272, Cl (l26273 ++ (([(.int .i64 x26270)] : List Value) ++ l26274)) 3)], hf, rfl, hle, h23876, h26287, h26299, h23877, (hS.sel [2, 3, 0, 1, 4, 5] rfl)⟩ ⟨rfl, rfl, rfl, rfl, rfl, rfl, rfl, trivial⟩ ?_ ?_
        · rintro _ _ ⟨_, _, _, _, _, _, _, _, _, _, _, _, _, _, _, hf, _⟩
          exact absurd hf (by simp [bonsailaw15_HeapPlays.l1])
        rintro n _ w Y hY ⟨v27884, v27885, v27886, v27887, v27888, v27889, v27890, K27867, a27870, c27871, C27872, a27875, c27876, C27877, C27882, hf, rfl, hle, h27868, h27869, h27874, h27879, hS⟩
        rw [bonsailaw15_HeapPlays.l1] at hf
        refine s_seq (s_seq (s_reg ?_))
        iterate 4 refine s_v rfl rfl rfl ?_
        refine s_nil (qn ?_)
        refine s_if rfl (fun hc => ?_) (fun hc => ?_)
        · replace hf := bif_t hc hf
          refine s_skip (qn (s_seq (s_block (s_seq (s_reg ?_)))))
          iterate 2 refine s_v rfl rfl rfl ?_
          obtain ⟨x27891, hx27892, hf⟩ := bs hf
          refine s_ixk h27868 rfl hx27892 rfl rfl rfl rfl rfl rfl rfl ?_
          rintro b27893 o27894 _ rfl h27895
          refine s_ldk (v := (.agg (vv30 x27891).toArray)) 0 hS h27895 rfl rfl rfl rfl ?_
          refine s_al hS rfl rfl rfl ?_
          intro b27896 w hS
          replace hS : Sat w K27867 (flat ([(b27896, Cl [(.int .u8 0), (.int .u8 0), (.int .u8 0), (.int .u8 0), (.int .i32 0)] 30)] :: _)) := hS
          refine s_st (cs' := (vv30 x27891)) 0 hS rfl rfl rfl rfl rfl ?_
          intro w hS
          replace hS : Sat w _ (flat [_, _, _, _, _, _, _]) := hS
          refine s_nil (qn (s_seq (s_reg ?_)))
          refine s_v rfl rfl rfl ?_
          refine s_ld 0 hS rfl rfl rfl rfl rfl ?_
          iterate 3 refine s_v rfl rfl rfl ?_
          refine s_v (v := (.agg #[(.int .i32 0), (.string ByteArray.empty), (.int .i64 (w64 ((w64 (Int.tmod x27891.Ref 12)) - 1)))])) rfl rfl rfl ?_
          refine s_al hS rfl rfl rfl ?_
          intro b27898 w hS
          replace hS : Sat w K27867 (flat ([(b27898, Cl [(.int .i32 0), (.string ByteArray.empty), (.int .i64 0)] 32)] :: _)) := hS
          refine s_st (cs' := [(.int .i32 0), (.string ByteArray.empty), (.int .i64 (w64 ((w64 (Int.tmod x27891.Ref 12)) - 1)))]) 0 hS rfl rfl rfl rfl rfl ?_
          intro w hS
          replace hS : Sat w _ (flat [_, _, _, _, _, _, _, _]) := hS
          refine s_nil (qn (s_seq (s_reg ?_)))
          refine s_v rfl rfl rfl ?_
          refine s_ld 0 hS rfl rfl rfl rfl rfl ?_
          refine s_v (v := (.agg #[(.int .i32 0), (.string ByteArray.empty), (.int .i64 (w64 ((w64 (Int.tmod x27891.Ref 12)) - 1)))])) rfl rfl rfl ?_
          refine s_al hS rfl rfl rfl ?_
          intro b27900 w hS
          replace hS : Sat w K27867 (flat ([(b27900, Cl [(.int .i32 0), (.string ByteArray.empty), (.int .i64 0)] 33)] :: _)) := hS
          refine s_st (cs' := [(.int .i32 0), (.string ByteArray.empty), (.int .i64 (w64 ((w64 (Int.tmod x27891.Ref 12)) - 1)))]) 0 hS rfl rfl rfl rfl rfl ?_
          intro w hS
          replace hS : Sat w _ (flat [_, _, _, _, _, _, _, _, _]) := hS
          refine s_nil (qn (s_seq (s_reg ?_)))
          refine s_v rfl rfl rfl ?_
          refine s_ld 2 hS rfl rfl rfl rfl rfl ?_
          iterate 4 refine s_v rfl rfl rfl ?_
          refine s_nil (qn ?_)
          obtain ⟨res28161, hst28162, hm28163⟩ := LR.then_some hf
          refine s_cut (fun τ w => ∃ (s28160 : ((List heap_thing) × Int × Int × Int × Int × (List bonsairef15_thing) × Int × Int)) (K28143 : KM) (a28146 : Option Addr) (c28147 : Nat) (C28148 : Chunks) (a28151 : Option Addr) (c28152 : Nat) (C28153 : Chunks) (C28158 : Chunks), res28161 = .brk s28160 ∧ τ = [(2, (.slice a4 p3.length c5)), (9, (.pointer (some ⟨b26284, 0, none⟩))), (10, (.pointer (some ⟨b26296, 0, none⟩))), (11, (.int .i64 v27890)), (13, (.pointer (some ⟨b27898, 0, none⟩))), (14, (.pointer (some ⟨b27900, 0, none⟩))), (39, (.slice a23878 v23882.length c23879)), (40, (.int .i64 2)), (41, (.int .i64 v23883))] ∧ KM.le K K28143 ∧ SlK 30 K28143 a4 c5 p3 ∧ OwnD 105 D105 K28143 (.slice a28146 s28160.1.length c28147) s28160.1 C28148 ∧ OwnD 108 D108 K28143 (.slice a28151 s28160.2.2.2.2.2.1.length c28152) s28160.2.2.2.2.2.1 C28153 ∧ OwnS 3 K28143 (.slice a23878 v23882.length c23879) v23882 C28158 ∧ Sat w K28143 (flat [[(b26284, Cl [(.slice a28146 s28160.1.length c28147), (.int .i64 s28160.2.1), (.int .i64 s28160.2.2.1)] 100)], C28148, [(b26296, Cl [(.int .i64 s28160.2.2.2.1), (.int .i64 s28160.2.2.2.2.1), (.slice a28151 s28160.2.2.2.2.2.1.length c28152)] 49)], C28153, [(b27898, Cl [(.int .i32 0), (.string ByteArray.empty), (.int .i64 s28160.2.2.2.2.2.2.1)] 32)], [(b27900, Cl [(.int .i32 0), (.string ByteArray.empty), (.int .i64 s28160.2.2.2.2.2.2.2)] 33)], C28158, L])) (fun J hJ => ?_) ?_
          · replace hf := hst28162
            refine s_seq (s_reg ?_)
            refine s_v rfl rfl rfl ?_
            refine s_ld 2 hS rfl rfl rfl rfl rfl ?_
            refine s_v rfl rfl rfl ?_
            refine s_nil (qn (s_block (s_seq (s_reg ?_))))
            iterate 2 refine s_v rfl rfl rfl ?_
            refine s_nil (qn ?_)
            refine s_if rfl (fun hc => ?_) (fun hc => ?_)
            · replace hf := bif_t hc hf
              refine s_seq (s_reg ?_)
              iterate 2 refine s_v rfl rfl rfl ?_
              refine s_ld 2 hS rfl rfl rfl rfl rfl ?_
              refine s_v rfl rfl rfl ?_
              obtain ⟨hm28164, hf⟩ := gs hf
              refine s_mks (e := 97) (α := api_Field) hS rfl rfl rfl rfl (mayMake_le hm28164).1 (mayMake_le hm28164).2 rfl rfl rfl rfl rfl rfl ?_
              intro a28165 c28166 w C28167 h28168 hS
              obtain ⟨K28170, hk28171, h28172, hS⟩ := h28168.freeze (hS.sel [0, 1, 2, 3, 4, 5, 6, 7, 8, 9] rfl)
              replace hS : Sat w _ (flat [_, _, _, _, _, _, _, _, _]) := hS
              obtain ⟨x28173, hx28174, hf⟩ := bs hf
              replace h27869 := h27869.mono hk28171
              refine s_call isf15 (Sat.shut2 (hS.sel [3, 4, 0, 1, 2, 5, 6, 7, 8] rfl)) (heap_Heap_Object_spec hx28174 h27869) rfl rfl rfl ?_
              rintro _ K28175 _ w hk28176 ⟨a28178, c28179, C28182, rfl, h28180, rfl⟩ hS
              replace hS := hS.open2
              iterate 3 refine s_v rfl rfl rfl ?_
              refine s_al hS rfl rfl rfl ?_
              intro b28184 w hS
              replace hS : Sat w K28175 (flat ([(b28184, Cl [(.int .i32 0), (.string ByteArray.empty), (.int .i64 0)] 32)] :: _)) := hS
              refine s_st (cs' := (vv32 x28173.1)) 0 hS rfl rfl rfl rfl rfl ?_
              intro w hS
              replace hS : Sat w _ (flat [_, _, _, _, _, _, _, _, _, _]) := hS
              refine s_v rfl rfl rfl ?_
              refine s_nil (qn (s_seq (s_reg ?_)))
              iterate 2 refine s_v rfl rfl rfl ?_
              refine s_ld 5 hS rfl rfl rfl rfl rfl ?_
              iterate 2 refine s_v rfl rfl rfl ?_
              obtain ⟨x28186, hx28187, hf⟩ := bs hf
              replace h27874 := h27874.mono (hk28171.trans hk28176)
              refine s_call isf16 (Sat.shut2 (hS.sel [6, 7, 0, 1, 2, 3, 4, 5, 8, 9] rfl)) (bonsairef15_Heap_Object_spec hx28187 h27874) rfl rfl rfl ?_
              rintro _ K28188 _ w hk28189 ⟨a28191, c28192, C28195, rfl, h28193, rfl⟩ hS
              replace hS := hS.open2
              iterate 3 refine s_v rfl rfl rfl ?_
              refine s_al hS rfl rfl rfl ?_
              intro b28197 w hS
              replace hS : Sat w K28188 (flat ([(b28197, Cl [(.int .i32 0), (.string ByteArray.empty), (.int .i64 0)] 33)] :: _)) := hS
              refine s_st (cs' := (vv33 x28186.1)) 0 hS rfl rfl rfl rfl rfl ?_
              intro w hS
              replace hS : Sat w _ (flat [_, _, _, _, _, _, _, _, _, _, _]) := hS
              refine s_v rfl rfl rfl ?_
              refine s_nil (qn ?_)
              replace hS : Sat w K28188 (flat [_, _, _, _, _, _, _, _, _, _]) := (hS.sel [0, 1, 2, 3, 4, 5, 6, 7, 9, 10] rfl)
              refine s_seq (s_reg ?_)
              refine s_ld (v := (.agg (vv32 x28173.1).toArray)) 3 hS rfl rfl rfl rfl rfl ?_
              refine s_ld (v := (.agg (vv33 x28186.1).toArray)) 0 hS rfl rfl rfl rfl rfl ?_
              obtain ⟨x28199, hx28200, hf⟩ := bs hf
              refine s_call isf17 hS.nilG (bonsailaw15_alike_spec hx28200) rfl rfl rfl ?_
              rintro _ K28201 C28203 w hk28202 rfl hS
              replace hS := hS.drop1
              iterate 2 refine s_v rfl rfl rfl ?_
              obtain ⟨s28221, hst28222, hf⟩ := bs hf
              have hkk0 := ((hk28171.trans hk28176).trans hk28189).trans hk28202
              refine r_cut [_, _, _, _] (fun τ w => ∃ (K28204 : KM) (C28209 : Chunks) (C28214 : Chunks) (C28219 : Chunks), τ = [(2, (.slice a4 p3.length c5)), (9, (.pointer (some ⟨b26284, 0, none⟩))), (10, (.pointer (some ⟨b26296, 0, none⟩))), (11, (.int .i64 v27890)), (13, (.pointer (some ⟨b27898, 0, none⟩))), (14, (.pointer (some ⟨b27900, 0, none⟩))), (39, (.slice a23878 v23882.length c23879)), (40, (.int .i64 2)), (41, (.int .i64 v23883)), (127, (.bool s28221.2.2))] ∧ KM.le K K28204 ∧ SlK 30 K28204 a4 c5 p3 ∧ OwnD 105 D105 K28204 (.slice a28178 x28173.2.2.l_.length c28179) x28173.2.2.l_ C28209 ∧ OwnD 108 D108 K28204 (.slice a28191 x28186.2.2.L.length c28192) x28186.2.2.L C28214 ∧ OwnS 3 K28204 (.slice a23878 v23882.length c23879) v23882 C28219 ∧ Sat w K28204 (flat [[(b26284, Cl (vv100 x28173.2.2 a28178 c28179) 100)], C28209, [(b26296, Cl (vv49 x28186.2.2 a28191 c28192) 49)], C28214, [(b27898, Cl [(.int .i32 0), (.string ByteArray.empty), (.int .i64 s28221.1)] 32)], [(b27900, Cl [(.int .i32 0), (.string ByteArray.empty), (.int .i64 s28221.2.1)] 33)], C28219, L])) rfl (fun J hJ => ?_) ?_
              · replace hf := hst28222
                cases hc : (!x28199)
                · replace hf := bif_f hc hf
                  iterate 4 refine s_v rfl rfl rfl ?_
                  have hq := Option.some.inj hf
                  subst hq
                  replace h27868 := h27868.mono hkk0
                  replace h27879 := h27879.mono hkk0
                  replace hle := hle.trans hkk0
                  replace h28180 := h28180.mono (hk28189.trans hk28202)
                  replace h28193 := h28193.mono hk28202
                  refine r_join hJ _ ⟨K28201, C28182, C28195, C27882, rfl, hle, h27868, h28180, h28193, h27879, (hS.sel [4, 5, 1, 2, 7, 6, 8, 9] rfl)⟩ ⟨rfl, rfl, rfl, rfl, rfl, rfl, rfl, rfl, rfl, rfl, trivial⟩
                replace hf := bif_t hc hf
                refine s_no rfl rfl ?_
                refine s_no rfl rfl ?_
                refine s_no rfl rfl ?_
                refine s_v rfl rfl rfl ?_
                have hq := Option.some.inj hf
                subst hq
                replace h27868 := h27868.mono hkk0
                replace h27879 := h27879.mono hkk0
                replace hle := hle.trans hkk0
                replace h28180 := h28180.mono (hk28189.trans hk28202)
                replace h28193 := h28193.mono hk28202
                refine r_join hJ _ ⟨K28201, C28182, C28195, C27882, rfl, hle, h27868, h28180, h28193, h27879, (hS.sel [4, 5, 1, 2, 7, 6, 8, 9] rfl)⟩ ⟨rfl, rfl, rfl, rfl, rfl, rfl, rfl, rfl, rfl, rfl, trivial⟩
              rintro _ w ⟨K28204, C28209, C28214, C28219, rfl, hle, h28205, h28206, h28211, h28216, hS⟩
              refine s_nil (qn ?_)
              refine s_if rfl (fun hc => ?_) (fun hc => ?_)
              · replace hf := bif_t hc hf
                refine s_seq (s_reg ?_)
                refine s_v rfl rfl rfl ?_
                refine s_nil (qn ?_)
                replace hS : Sat w K28204 (flat [_]) := (hS.sel [7] rfl)
                refine s_rets (qrb (qrt ?_))
                replace hf := LR.esc_some hf hm28163
                refine qrb (qrt (qrt (qrb (qrb (qrt ?_)))))
                replace hf := LR.esc_some hf hm26269
                refine qrt (qrb (qrt ?_))
                replace hf := LR.esc_some hf hm14330
                have hq := Option.some.inj hf
                subst hq
                refine s_ret1 rfl (rv_t rfl) ?_
                exact ⟨K28204, _, hle, rfl, Sat.nilG (hS.sel [0] rfl)⟩
              replace hf := bif_f hc hf
              refine s_skip (qbn (qn ?_))
              have hq := Option.some.inj hf
              subst hq
              refine s_join hJ _ ⟨(x28173.2.2.l_, x28173.2.2.used_, x28173.2.2.most_, x28186.2.2.Most, x28186.2.2.Used, x28186.2.2.L, s28221.1, s28221.2.1), K28204, a28178, c28179, C28209, a28191, c28192, C28214, C28219, rfl, rfl, hle, h28205, h28206, h28211, h28216, hS⟩ ⟨rfl, rfl, rfl, rfl, rfl, rfl, rfl, rfl, rfl, trivial⟩
            replace hf := bif_f hc hf
            refine s_seq (s_reg ?_)
            iterate 2 refine s_v rfl rfl rfl ?_
            refine s_nil (qn ?_)
            refine s_if rfl (fun hc => ?_) (fun hc => ?_)
            · replace hf := bif_t hc hf
              refine s_seq (s_reg ?_)
              refine s_v rfl rfl rfl ?_
              refine s_ld 2 hS rfl rfl rfl rfl rfl ?_
              iterate 4 refine s_v rfl rfl rfl ?_
              refine s_nil (qn ?_)
              obtain ⟨s28240, hst28241, hf⟩ := bs hf
              refine s_cut (fun τ w => ∃ (K28223 : KM) (C28228 : Chunks) (C28233 : Chunks) (C28238 : Chunks), τ = [(2, (.slice a4 p3.length c5)), (9, (.pointer (some ⟨b26284, 0, none⟩))), (10, (.pointer (some ⟨b26296, 0, none⟩))), (11, (.int .i64 v27890)), (13, (.pointer (some ⟨b27898, 0, none⟩))), (14, (.pointer (some ⟨b27900, 0, none⟩))), (20, (.int .i32 s28240.2.2)), (39, (.slice a23878 v23882.length c23879)), (40, (.int .i64 2)), (41, (.int .i64 v23883))] ∧ KM.le K K28223 ∧ SlK 30 K28223 a4 c5 p3 ∧ OwnD 105 D105 K28223 (.slice a27870 v27884.length c27871) v27884 C28228 ∧ OwnD 108 D108 K28223 (.slice a27875 v27889.length c27876) v27889 C28233 ∧ OwnS 3 K28223 (.slice a23878 v23882.length c23879) v23882 C28238 ∧ Sat w K28223 (flat [[(b26284, Cl [(.slice a27870 v27884.length c27871), (.int .i64 v27885), (.int .i64 v27886)] 100)], C28228, [(b26296, Cl [(.int .i64 v27887), (.int .i64 v27888), (.slice a27875 v27889.length c27876)] 49)], C28233, [(b27898, Cl [(.int .i32 0), (.string ByteArray.empty), (.int .i64 s28240.1)] 32)], [(b27900, Cl [(.int .i32 0), (.string ByteArray.empty), (.int .i64 s28240.2.1)] 33)], C28238, L])) (fun J hJ => ?_) ?_
              · replace hf := hst28241
                refine s_seq (s_reg ?_)
                refine s_v rfl rfl rfl ?_
                refine s_ld 2 hS rfl rfl rfl rfl rfl ?_
                refine s_v rfl rfl rfl ?_
                refine s_nil (qn ?_)
                refine s_if rfl (fun hc => ?_) (fun hc => ?_)
                · replace hf := bif_t hc hf
                  refine s_reg ?_
                  refine s_v rfl rfl rfl ?_
                  refine s_ld 2 hS rfl rfl rfl rfl rfl ?_
                  refine s_v rfl rfl rfl ?_
                  refine s_nil (qn ?_)
                  have hq := Option.some.inj hf
                  subst hq
                  refine s_join hJ _ ⟨K27867, C27872, C27877, C27882, rfl, hle, h27868, h27869, h27874, h27879, (hS.sel [3, 4, 5, 6, 1, 0, 7, 8] rfl)⟩ ⟨rfl, rfl, rfl, rfl, rfl, rfl, rfl, rfl, rfl, rfl, trivial⟩
                replace hf := bif_f hc hf
                refine s_skip (qn ?_)
                have hq := Option.some.inj hf
                subst hq
                refine s_join hJ _ ⟨K27867, C27872, C27877, C27882, rfl, hle, h27868, h27869, h27874, h27879, (hS.sel [3, 4, 5, 6, 1, 0, 7, 8] rfl)⟩ ⟨rfl, rfl, rfl, rfl, rfl, rfl, rfl, rfl, rfl, rfl, trivial⟩
              rintro _ w ⟨K28223, C28228, C28233, C28238, rfl, hle, h28224, h28225, h28230, h28235, hS⟩
              refine s_seq (s_reg ?_)
              iterate 2 refine s_v rfl rfl rfl ?_
              obtain ⟨x28242, hx28243, hf⟩ := bs hf
              refine s_call isf18 (Sat.shut2 hS) (heap_Heap_Array_spec hx28243 h28225) rfl rfl rfl ?_
              rintro _ K28244 _ w hk28245 ⟨a28247, c28248, C28251, rfl, h28249, rfl⟩ hS
              replace hS := hS.open2
              iterate 3 refine s_v rfl rfl rfl ?_
              refine s_al hS rfl rfl rfl ?_
              intro b28253 w hS
              replace hS : Sat w K28244 (flat ([(b28253, Cl [(.int .i32 0), (.string ByteArray.empty), (.int .i64 0)] 32)] :: _)) := hS
              refine s_st (cs' := (vv32 x28242.1)) 0 hS rfl rfl rfl rfl rfl ?_
              intro w hS
              replace hS : Sat w _ (flat [_, _, _, _, _, _, _, _, _]) := hS
              refine s_v rfl rfl rfl ?_
              refine s_nil (qn (s_seq (s_reg ?_)))
              iterate 2 refine s_v rfl rfl rfl ?_
              obtain ⟨x28255, hx28256, hf⟩ := bs hf
              replace h28230 := h28230.mono hk28245
              refine s_call isf19 (Sat.shut2 (hS.sel [3, 4, 0, 1, 2, 5, 6, 7, 8] rfl)) (bonsairef15_Heap_Array_spec hx28256 h28230) rfl rfl rfl ?_
              rintro _ K28257 _ w hk28258 ⟨a28260, c28261, C28264, rfl, h28262, rfl⟩ hS
              replace hS := hS.open2
              iterate 3 refine s_v rfl rfl rfl ?_
              refine s_al hS rfl rfl rfl ?_
              intro b28266 w hS
              replace hS : Sat w K28257 (flat ([(b28266, Cl [(.int .i32 0), (.string ByteArray.empty), (.int .i64 0)] 33)] :: _)) := hS
              refine s_st (cs' := (vv33 x28255.1)) 0 hS rfl rfl rfl rfl rfl ?_
              intro w hS
              replace hS : Sat w _ (flat [_, _, _, _, _, _, _, _, _, _]) := hS
              refine s_v rfl rfl rfl ?_
              refine s_nil (qn (s_seq (s_reg ?_)))
              refine s_ld (v := (.agg (vv32 x28242.1).toArray)) 3 hS rfl rfl rfl rfl rfl ?_
              refine s_ld (v := (.agg (vv33 x28255.1).toArray)) 0 hS rfl rfl rfl rfl rfl ?_
              obtain ⟨x28268, hx28269, hf⟩ := bs hf
              refine s_call isf17 hS.nilG (bonsailaw15_alike_spec hx28269) rfl rfl rfl ?_
              rintro _ K28270 C28272 w hk28271 rfl hS
              replace hS := hS.drop1
              iterate 2 refine s_v rfl rfl rfl ?_
              obtain ⟨s28290, hst28291, hf⟩ := bs hf
              refine r_cut [_, _, _, _] (fun τ w => ∃ (K28273 : KM) (C28278 : Chunks) (C28283 : Chunks) (C28288 : Chunks), τ = [(2, (.slice a4 p3.length c5)), (9, (.pointer (some ⟨b26284, 0, none⟩))), (10, (.pointer (some ⟨b26296, 0, none⟩))), (11, (.int .i64 v27890)), (13, (.pointer (some ⟨b27898, 0, none⟩))), (14, (.pointer (some ⟨b27900, 0, none⟩))), (39, (.slice a23878 v23882.length c23879)), (40, (.int .i64 2)), (41, (.int .i64 v23883)), (160, (.bool s28290))] ∧ KM.le K K28273 ∧ SlK 30 K28273 a4 c5 p3 ∧ OwnD 105 D105 K28273 (.slice a28247 x28242.2.2.l_.length c28248) x28242.2.2.l_ C28278 ∧ OwnD 108 D108 K28273 (.slice a28260 x28255.2.2.L.length c28261) x28255.2.2.L C28283 ∧ OwnS 3 K28273 (.slice a23878 v23882.length c23879) v23882 C28288 ∧ Sat w K28273 (flat [[(b26284, Cl (vv100 x28242.2.2 a28247 c28248) 100)], C28278, [(b26296, Cl (vv49 x28255.2.2 a28260 c28261) 49)], C28283, [(b27898, Cl [(.int .i32 0), (.string ByteArray.empty), (.int .i64 s28240.1)] 32)], [(b27900, Cl [(.int .i32 0), (.string ByteArray.empty), (.int .i64 s28240.2.1)] 33)], C28288, L])) rfl (fun J hJ => ?_) ?_
              · replace hf := hst28291
                cases hc : (!x28268)
                · replace hf := bif_f hc hf
                  iterate 4 refine s_v rfl rfl rfl ?_
                  have hq := Option.some.inj hf
                  subst hq
                  replace h28224 := h28224.mono ((hk28245.trans hk28258).trans hk28271)
                  replace h28235 := h28235.mono ((hk28245.trans hk28258).trans hk28271)
                  replace hle := hle.trans ((hk28245.trans hk28258).trans hk28271)
                  replace h28249 := h28249.mono (hk28258.trans hk28271)
                  replace h28262 := h28262.mono hk28271
                  refine r_join hJ _ ⟨K28270, C28251, C28264, C28238, rfl, hle, h28224, h28249, h28262, h28235, (hS.sel [4, 5, 1, 2, 6, 7, 8, 9] rfl)⟩ ⟨rfl, rfl, rfl, rfl, rfl, rfl, rfl, rfl, rfl, rfl, trivial⟩
                replace hf := bif_t hc hf
                refine s_no rfl rfl ?_
                refine s_no rfl rfl ?_
                refine s_no rfl rfl ?_
                refine s_v rfl rfl rfl ?_
                have hq := Option.some.inj hf
                subst hq
                replace h28224 := h28224.mono ((hk28245.trans hk28258).trans hk28271)
                replace h28235 := h28235.mono ((hk28245.trans hk28258).trans hk28271)
                replace hle := hle.trans ((hk28245.trans hk28258).trans hk28271)
                replace h28249 := h28249.mono (hk28258.trans hk28271)
                replace h28262 := h28262.mono hk28271
                refine r_join hJ _ ⟨K28270, C28251, C28264, C28238, rfl, hle, h28224, h28249, h28262, h28235, (hS.sel [4, 5, 1, 2, 6, 7, 8, 9] rfl)⟩ ⟨rfl, rfl, rfl, rfl, rfl, rfl, rfl, rfl, rfl, rfl, trivial⟩
              rintro _ w ⟨K28273, C28278, C28283, C28288, rfl, hle, h28274, h28275, h28280, h28285, hS⟩
              refine s_nil (qn ?_)
              refine s_if rfl (fun hc => ?_) (fun hc => ?_)
              · replace hf := bif_t hc hf
                refine s_seq (s_reg ?_)
                refine s_v rfl rfl rfl ?_
                refine s_nil (qn ?_)
                replace hS : Sat w K28273 (flat [_]) := (hS.sel [7] rfl)
                refine s_rets (qrb (qrt ?_))
                replace hf := LR.esc_some hf hm28163
                refine qrb (qrt (qrt (qrb (qrb (qrt ?_)))))
                replace hf := LR.esc_some hf hm26269
                refine qrt (qrb (qrt ?_))
                replace hf := LR.esc_some hf hm14330
                have hq := Option.some.inj hf
                subst hq
                refine s_ret1 rfl (rv_t rfl) ?_
                exact ⟨K28273, _, hle, rfl, Sat.nilG (hS.sel [0] rfl)⟩
              replace hf := bif_f hc hf
              refine s_skip (qbn (qn ?_))
              have hq := Option.some.inj hf
              subst hq
              refine s_join hJ _ ⟨(x28242.2.2.l_, x28242.2.2.used_, x28242.2.2.most_, x28255.2.2.Most, x28255.2.2.Used, x28255.2.2.L, s28240.1, s28240.2.1), K28273, a28247, c28248, C28278, a28260, c28261, C28283, C28288, rfl, rfl, hle, h28274, h28275, h28280, h28285, hS⟩ ⟨rfl, rfl, rfl, rfl, rfl, rfl, rfl, rfl, rfl, trivial⟩
            replace hf := bif_f hc hf
            obtain ⟨s28309, hst28310, hf⟩ := bs hf
            refine s_cut (fun τ w => ∃ (K28292 : KM) (C28297 : Chunks) (C28302 : Chunks) (C28307 : Chunks), τ = [(2, (.slice a4 p3.length c5)), (9, (.pointer (some ⟨b26284, 0, none⟩))), (10, (.pointer (some ⟨b26296, 0, none⟩))), (11, (.int .i64 v27890)), (12, (.pointer (some ⟨b27896, 0, none⟩))), (13, (.pointer (some ⟨b27898, 0, none⟩))), (14, (.pointer (some ⟨b27900, 0, none⟩))), (15, (.int .i64 s28309.2.2.1)), (39, (.slice a23878 v23882.length c23879)), (40, (.int .i64 2)), (41, (.int .i64 v23883)), (161, (.bool s28309.2.2.2))] ∧ KM.le K K28292 ∧ SlK 30 K28292 a4 c5 p3 ∧ OwnD 105 D105 K28292 (.slice a27870 v27884.length c27871) v27884 C28297 ∧ OwnD 108 D108 K28292 (.slice a27875 v27889.length c27876) v27889 C28302 ∧ OwnS 3 K28292 (.slice a23878 v23882.length c23879) v23882 C28307 ∧ Sat w K28292 (flat [[(b26284, Cl [(.slice a27870 v27884.length c27871), (.int .i64 v27885), (.int .i64 v27886)] 100)], C28297, [(b26296, Cl [(.int .i64 v27887), (.int .i64 v27888), (.slice a27875 v27889.length c27876)] 49)], C28302, [(b27896, Cl (vv30 x27891) 30)], [(b27898, Cl [(.int .i32 0), (.string ByteArray.empty), (.int .i64 s28309.1)] 32)], [(b27900, Cl [(.int .i32 0), (.string ByteArray.empty), (.int .i64 s28309.2.1)] 33)], C28307, L])) (fun J hJ => ?_) ?_
            · replace hf := hst28310
              refine s_seq (s_reg ?_)
              iterate 2 refine s_v rfl rfl rfl ?_
              refine s_nil (qn ?_)
              refine s_if rfl (fun hc => ?_) (fun hc => ?_)
              · replace hf := bif_t hc hf
                refine s_skip (qn ?_)
                have hq := Option.some.inj hf
                subst hq
                refine s_join hJ _ ⟨K27867, C27872, C27877, C27882, rfl, hle, h27868, h27869, h27874, h27879, (hS.sel [3, 4, 5, 6, 2, 1, 0, 7, 8] rfl)⟩ ⟨rfl, rfl, rfl, rfl, rfl, rfl, rfl, rfl, rfl, rfl, rfl, rfl, trivial⟩
              replace hf := bif_f hc hf
              refine s_reg ?_
              iterate 2 refine s_v rfl rfl rfl ?_
              refine s_nil (qn ?_)
              have hq := Option.some.inj hf
              subst hq
              refine s_join hJ _ ⟨K27867, C27872, C27877, C27882, rfl, hle, h27868, h27869, h27874, h27879, (hS.sel [3, 4, 5, 6, 2, 1, 0, 7, 8] rfl)⟩ ⟨rfl, rfl, rfl, rfl, rfl, rfl, rfl, rfl, rfl, rfl, rfl, rfl, trivial⟩
            rintro _ w ⟨K28292, C28297, C28302, C28307, rfl, hle, h28293, h28294, h28299, h28304, hS⟩
            refine s_if rfl (fun hc => ?_) (fun hc => ?_)
            · replace hf := bif_t hc hf
              refine s_seq ?_
              refine d_start [4, 5, 6] [] hS ?_
              intro w hS
              refine d_v 0 (fun _ _ _ _ _ h => h) [4, 5, 6] hS rfl rfl rfl (by kernel_rfl) rfl rfl ?_
              refine d_ld (v := (.agg #[(.int .i32 0), (.string ByteArray.empty), (.int .i64 s28309.1)])) 1 1 (fun _ _ _ _ _ h => h) [4, 5, 6] hS rfl rfl rfl rfl rfl (by kernel_rfl) rfl rfl ?_
              refine d_v 2 (fun _ _ _ _ _ h => h) [4, 5, 6] hS rfl rfl rfl (by kernel_rfl) rfl rfl ?_
              refine d_v 3 (fun _ _ _ _ _ h => h) [4, 5, 6] hS rfl rfl rfl (by kernel_rfl) rfl rfl ?_
              refine d_ld 4 0 (fun _ _ _ _ _ h => h) [4, 5, 6] hS rfl rfl rfl rfl rfl (by kernel_rfl) rfl rfl ?_
              refine d_v (v := (.agg #[(.int .i32 x27891.Raw), (.string (⟨#[115]⟩ : ByteArray)), (.int .i64 3)])) 5 (fun _ _ _ _ _ h => h) [4, 5, 6] hS rfl rfl rfl (by kernel_rfl) rfl rfl ?_
              refine d_v 7 (fun _ _ _ _ _ h => h) [4, 5, 6] hS rfl rfl rfl (by kernel_rfl) rfl rfl ?_
              refine d_ld (v := (.agg #[(.int .i32 0), (.string ByteArray.empty), (.int .i64 s28309.2.1)])) 8 2 (fun _ _ _ _ _ h => h) [4, 5, 6] hS rfl rfl rfl rfl rfl (by kernel_rfl) rfl rfl ?_
              refine d_v 9 (fun _ _ _ _ _ h => h) [4, 5, 6] hS rfl rfl rfl (by kernel_rfl) rfl rfl ?_
              refine d_v 10 (fun _ _ _ _ _ h => h) [4, 5, 6] hS rfl rfl rfl (by kernel_rfl) rfl rfl ?_
              refine d_ld 11 0 (fun _ _ _ _ _ h => h) [4, 5, 6] hS rfl rfl rfl rfl rfl (by kernel_rfl) rfl rfl ?_
              refine d_v (v := (.agg #[(.int .i32 x27891.Raw), (.string (⟨#[115]⟩ : ByteArray)), (.int .i64 3)])) 12 (fun _ _ _ _ _ h => h) [4, 5, 6] hS rfl rfl rfl (by kernel_rfl) rfl rfl ?_
              refine d_op 6 rfl (by kernel_rfl) (by kernel_rfl) (fun X hX => ?_)
              have hlq := KM.le.refl K28292
              obtain ⟨x28333, hx28334, hf⟩ := bs hf
              refine s_call isf20 (Sat.shut2 hS) (heap_Heap_Put_spec hx28334 h28294) rfl rfl rfl ?_
              rintro _ K28335 _ w hk28336 ⟨a28338, c28339, C28342, rfl, h28340, rfl⟩ hS
              replace hS := hS.open2
              replace hlq := hlq.trans hk28336
              refine d_go [4, 5, 6] [4, 5, 6] [] [] hX hS hlq rfl rfl trivial ?_
              refine d_op 13 rfl (by kernel_rfl) (by kernel_rfl) (fun X hX => ?_)
              have hlq := KM.le.refl K28335
              obtain ⟨x28344, hx28345, hf⟩ := bs hf
              replace h28299 := h28299.mono hk28336
              refine s_call isf21 (Sat.shut2 (hS.sel [2, 3, 0, 1, 4, 5, 6, 7, 8] rfl)) (bonsairef15_Heap_Put_spec hx28345 h28299) rfl rfl rfl ?_
              rintro _ K28346 _ w hk28347 ⟨a28349, c28350, C28353, rfl, h28351, rfl⟩ hS
              replace hS := hS.open2
              replace hlq := hlq.trans hk28347
              refine d_go [4, 5, 6] [4, 5, 6] [] [] hX hS hlq rfl rfl trivial ?_
              refine d_v 14 (fun _ _ _ _ _ h => h) [4, 5, 6] hS rfl rfl rfl (by kernel_rfl) rfl rfl ?_
              refine d_end (by kernel_rfl) ?_
              refine qn ?_
              replace hS : Sat w K28346 (flat [_, _, _, _, _, _, _, _]) := (hS.sel [0, 1, 2, 3, 5, 6, 7, 8] rfl)
              refine s_if rfl (fun hc => ?_) (fun hc => ?_)
              · replace hf := bif_t hc hf
                refine s_seq (s_reg ?_)
                refine s_v rfl rfl rfl ?_
                refine s_nil (qn ?_)
                replace hS : Sat w K28346 (flat [_]) := (hS.sel [7] rfl)
                refine s_rets (qrb (qrt ?_))
                replace hf := LR.esc_some hf hm28163
                refine qrb (qrt (qrt (qrb (qrb (qrt ?_)))))
                replace hf := LR.esc_some hf hm26269
                refine qrt (qrb (qrt ?_))
                replace hf := LR.esc_some hf hm14330
                have hq := Option.some.inj hf
                subst hq
                refine s_ret1 rfl (rv_t rfl) ?_
                replace hle := hle.trans (hk28336.trans hk28347)
                exact ⟨K28346, _, hle, rfl, Sat.nilG (hS.sel [0] rfl)⟩
              replace hf := bif_f hc hf
              refine s_skip (qbn (qn ?_))
              have hq := Option.some.inj hf
              subst hq
              replace h28293 := h28293.mono (hk28336.trans hk28347)
              replace h28304 := h28304.mono (hk28336.trans hk28347)
              replace hle := hle.trans (hk28336.trans hk28347)
              replace h28340 := h28340.mono hk28347
              refine s_join hJ _ ⟨(x28333.2.l_, x28333.2.used_, x28333.2.most_, x28344.2.Most, x28344.2.Used, x28344.2.L, s28309.1, s28309.2.1), K28346, a28338, c28339, C28342, a28349, c28350, C28353, C28307, rfl, rfl, hle, h28293, h28340, h28351, h28304, (hS.sel [2, 3, 0, 1, 4, 5, 6, 7] rfl)⟩ ⟨rfl, rfl, rfl, rfl, rfl, rfl, rfl, rfl, rfl, trivial⟩
            replace hf := bif_f hc hf
            refine s_seq (s_reg ?_)
            refine s_v rfl rfl rfl ?_
            refine s_ld (v := (.agg #[(.int .i32 0), (.string ByteArray.empty), (.int .i64 s28309.1)])) 5 hS rfl rfl rfl rfl rfl ?_
            refine s_v rfl rfl rfl ?_
            obtain ⟨x28355, hx28356, hf⟩ := bs hf
            refine s_call isf22 (Sat.shut2 hS) (heap_Heap_Get_spec hx28356 h28294) rfl rfl rfl ?_
            rintro _ K28357 _ w hk28358 ⟨a28360, c28361, C28364, rfl, h28362, rfl⟩ hS
            replace hS := hS.open2
            iterate 3 refine s_v rfl rfl rfl ?_
            refine s_al hS rfl rfl rfl ?_
            intro b28366 w hS
            replace hS : Sat w K28357 (flat ([(b28366, Cl [(.int .i32 0), (.string ByteArray.empty), (.int .i64 0)] 32)] :: _)) := hS
            refine s_st (cs' := (vv32 x28355.1)) 0 hS rfl rfl rfl rfl rfl ?_
            intro w hS
            replace hS : Sat w _ (flat [_, _, _, _, _, _, _, _, _, _]) := hS
            refine s_v rfl rfl rfl ?_
            refine s_nil (qn ?_)
            replace hS : Sat w K28357 (flat [_, _, _, _, _, _, _, _, _]) := (hS.sel [0, 1, 2, 3, 4, 6, 7, 8, 9] rfl)
            refine s_seq (s_reg ?_)
            refine s_v rfl rfl rfl ?_
            refine s_ld (v := (.agg #[(.int .i32 0), (.string ByteArray.empty), (.int .i64 s28309.2.1)])) 6 hS rfl rfl rfl rfl rfl ?_
            refine s_v rfl rfl rfl ?_
            obtain ⟨x28368, hx28369, hf⟩ := bs hf
            replace h28299 := h28299.mono hk28358
            refine s_call isf23 (Sat.shut2 (hS.sel [3, 4, 0, 1, 2, 5, 6, 7, 8] rfl)) (bonsairef15_Heap_Get_spec hx28369 h28299) rfl rfl rfl ?_
            rintro _ K28370 _ w hk28371 ⟨a28373, c28374, C28377, rfl, h28375, rfl⟩ hS
            replace hS := hS.open2
            iterate 3 refine s_v rfl rfl rfl ?_
            refine s_al hS rfl rfl rfl ?_
            intro b28379 w hS
            replace hS : Sat w K28370 (flat ([(b28379, Cl [(.int .i32 0), (.string ByteArray.empty), (.int .i64 0)] 33)] :: _)) := hS
            refine s_st (cs' := (vv33 x28368.1)) 0 hS rfl rfl rfl rfl rfl ?_
            intro w hS
            replace hS : Sat w _ (flat [_, _, _, _, _, _, _, _, _, _]) := hS
            refine s_v rfl rfl rfl ?_
            refine s_nil (qn (s_seq (s_reg ?_)))
            refine s_ld (v := (.agg (vv32 x28355.1).toArray)) 3 hS rfl rfl rfl rfl rfl ?_
            refine s_ld (v := (.agg (vv33 x28368.1).toArray)) 0 hS rfl rfl rfl rfl rfl ?_
            obtain ⟨x28381, hx28382, hf⟩ := bs hf
            refine s_call isf17 hS.nilG (bonsailaw15_alike_spec hx28382) rfl rfl rfl ?_
            rintro _ K28383 C28385 w hk28384 rfl hS
            replace hS := hS.drop1
            iterate 2 refine s_v rfl rfl rfl ?_
            obtain ⟨s28403, hst28404, hf⟩ := bs hf
            refine r_cut [_, _, _, _] (fun τ w => ∃ (K28386 : KM) (C28391 : Chunks) (C28396 : Chunks) (C28401 : Chunks), τ = [(2, (.slice a4 p3.length c5)), (9, (.pointer (some ⟨b26284, 0, none⟩))), (10, (.pointer (some ⟨b26296, 0, none⟩))), (11, (.int .i64 v27890)), (13, (.pointer (some ⟨b27898, 0, none⟩))), (14, (.pointer (some ⟨b27900, 0, none⟩))), (39, (.slice a23878 v23882.length c23879)), (40, (.int .i64 2)), (41, (.int .i64 v23883)), (98, (.bool s28403))] ∧ KM.le K K28386 ∧ SlK 30 K28386 a4 c5 p3 ∧ OwnD 105 D105 K28386 (.slice a28360 x28355.2.2.l_.length c28361) x28355.2.2.l_ C28391 ∧ OwnD 108 D108 K28386 (.slice a28373 x28368.2.2.L.length c28374) x28368.2.2.L C28396 ∧ OwnS 3 K28386 (.slice a23878 v23882.length c23879) v23882 C28401 ∧ Sat w K28386 (flat [[(b26284, Cl (vv100 x28355.2.2 a28360 c28361) 100)], C28391, [(b26296, Cl (vv49 x28368.2.2 a28373 c28374) 49)], C28396, [(b27898, Cl [(.int .i32 0), (.string ByteArray.empty), (.int .i64 s28309.1)] 32)], [(b27900, Cl [(.int .i32 0), (.string ByteArray.empty), (.int .i64 s28309.2.1)] 33)], C28401, L])) rfl (fun J hJ => ?_) ?_
            · replace hf := hst28404
              cases hc : (!x28381)
              · replace hf := bif_f hc hf
                iterate 4 refine s_v rfl rfl rfl ?_
                have hq := Option.some.inj hf
                subst hq
                replace h28293 := h28293.mono ((hk28358.trans hk28371).trans hk28384)
                replace h28304 := h28304.mono ((hk28358.trans hk28371).trans hk28384)
                replace hle := hle.trans ((hk28358.trans hk28371).trans hk28384)
                replace h28362 := h28362.mono (hk28371.trans hk28384)
                replace h28375 := h28375.mono hk28384
                refine r_join hJ _ ⟨K28383, C28364, C28377, C28307, rfl, hle, h28293, h28362, h28375, h28304, (hS.sel [4, 5, 1, 2, 6, 7, 8, 9] rfl)⟩ ⟨rfl, rfl, rfl, rfl, rfl, rfl, rfl, rfl, rfl, rfl, trivial⟩
              replace hf := bif_t hc hf
              refine s_no rfl rfl ?_
              refine s_no rfl rfl ?_
              refine s_no rfl rfl ?_
              refine s_v rfl rfl rfl ?_
              have hq := Option.some.inj hf
              subst hq
              replace h28293 := h28293.mono ((hk28358.trans hk28371).trans hk28384)
              replace h28304 := h28304.mono ((hk28358.trans hk28371).trans hk28384)
              replace hle := hle.trans ((hk28358.trans hk28371).trans hk28384)
              replace h28362 := h28362.mono (hk28371.trans hk28384)
              replace h28375 := h28375.mono hk28384
              refine r_join hJ _ ⟨K28383, C28364, C28377, C28307, rfl, hle, h28293, h28362, h28375, h28304, (hS.sel [4, 5, 1, 2, 6, 7, 8, 9] rfl)⟩ ⟨rfl, rfl, rfl, rfl, rfl, rfl, rfl, rfl, rfl, rfl, trivial⟩
            rintro _ w ⟨K28386, C28391, C28396, C28401, rfl, hle, h28387, h28388, h28393, h28398, hS⟩
            refine s_nil (qn ?_)
            refine s_if rfl (fun hc => ?_) (fun hc => ?_)
            · replace hf := bif_t hc hf
              refine s_seq (s_reg ?_)
              refine s_v rfl rfl rfl ?_
              refine s_nil (qn ?_)
              replace hS : Sat w K28386 (flat [_]) := (hS.sel [7] rfl)
              refine s_rets (qrb (qrt ?_))
              replace hf := LR.esc_some hf hm28163
              refine qrb (qrt (qrt (qrb (qrb (qrt ?_)))))
              replace hf := LR.esc_some hf hm26269
              refine qrt (qrb (qrt ?_))
              replace hf := LR.esc_some hf hm14330
              have hq := Option.some.inj hf
              subst hq
              refine s_ret1 rfl (rv_t rfl) ?_
              exact ⟨K28386, _, hle, rfl, Sat.nilG (hS.sel [0] rfl)⟩
            replace hf := bif_f hc hf
            refine s_skip (qbn (qn ?_))
            have hq := Option.some.inj hf
            subst hq
            refine s_join hJ _ ⟨(x28355.2.2.l_, x28355.2.2.used_, x28355.2.2.most_, x28368.2.2.Most, x28368.2.2.Used, x28368.2.2.L, s28309.1, s28309.2.1), K28386, a28360, c28361, C28391, a28373, c28374, C28396, C28401, rfl, rfl, hle, h28387, h28388, h28393, h28398, hS⟩ ⟨rfl, rfl, rfl, rfl, rfl, rfl, rfl, rfl, rfl, trivial⟩
          rintro _ w ⟨s28160, K28143, a28146, c28147, C28148, a28151, c28152, C28153, C28158, rfl, rfl, hle, h28144, h28145, h28150, h28155, hS⟩
          replace hf := LR.elim_brk hm28163
          obtain ⟨s28532, hst28533, hf⟩ := bs hf
          refine s_cut (fun τ w => ∃ (K28515 : KM) (a28518 : Option Addr) (c28519 : Nat) (C28520 : Chunks) (a28523 : Option Addr) (c28524 : Nat) (C28525 : Chunks) (C28530 : Chunks), τ = [(2, (.slice a4 p3.length c5)), (9, (.pointer (some ⟨b26284, 0, none⟩))), (10, (.pointer (some ⟨b26296, 0, none⟩))), (11, (.int .i64 v27890)), (39, (.slice a23878 v23882.length c23879)), (40, (.int .i64 2)), (41, (.int .i64 v23883)), (203, (.bool s28532.2.2.2.2.2.2))] ∧ KM.le K K28515 ∧ SlK 30 K28515 a4 c5 p3 ∧ OwnD 105 D105 K28515 (.slice a28518 s28532.1.length c28519) s28532.1 C28520 ∧ OwnD 108 D108 K28515 (.slice a28523 s28532.2.2.2.2.2.1.length c28524) s28532.2.2.2.2.2.1 C28525 ∧ OwnS 3 K28515 (.slice a23878 v23882.length c23879) v23882 C28530 ∧ Sat w K28515 (flat [[(b26284, Cl [(.slice a28518 s28532.1.length c28519), (.int .i64 s28532.2.1), (.int .i64 s28532.2.2.1)] 100)], C28520, [(b26296, Cl [(.int .i64 s28532.2.2.2.1), (.int .i64 s28532.2.2.2.2.1), (.slice a28523 s28532.2.2.2.2.2.1.length c28524)] 49)], C28525, C28530, L])) (fun J hJ => ?_) ?_
          · replace hf := hst28533
            refine d_start [4, 5] [(6, [2])] hS ?_
            intro w hS
            refine d_v 0 (fun _ _ _ _ _ h => h) [4, 5] hS rfl rfl rfl (by kernel_rfl) rfl rfl ?_
            refine d_v 2 (fun _ _ _ _ _ h => h) [4, 5] hS rfl rfl rfl (by kernel_rfl) rfl rfl ?_
            refine d_v 3 (fun _ _ _ _ _ h => h) [4, 5] hS rfl rfl rfl (by kernel_rfl) rfl rfl ?_
            refine d_v 4 (fun _ _ _ _ _ h => h) [4, 5] hS rfl rfl rfl (by kernel_rfl) rfl rfl ?_
            refine d_ldh 5 0 (fun _ _ _ _ _ h => h) [4, 5] hS rfl rfl rfl (by kernel_rfl) rfl rfl (by kernel_rfl) rfl rfl ?_
            refine d_op 1 rfl (by kernel_rfl) (by kernel_rfl) (fun X hX => ?_)
            have hlq := KM.le.refl K28143
            obtain ⟨x28589, hx28590, hf⟩ := bs hf
            refine s_call isf24 (Sat.shut2 hS) (heap_Heap_Used_spec hx28590 h28145) rfl rfl rfl ?_
            rintro _ K28591 _ w hk28592 ⟨a28594, c28595, C28598, rfl, h28596, rfl⟩ hS
            replace hS := hS.open2
            replace hlq := hlq.trans hk28592
            refine d_go [4, 5] [4, 5] [(6, [2])] [some 0] hX hS hlq rfl rfl ⟨rfl, trivial⟩ ?_
            refine d_hold [4, 5] [(13, [2])] (by kernel_rfl) (by kernel_rfl) (by kernel_rfl) ?_
            refine d_v 6 (fun _ _ _ _ _ h => h) [4, 5] hS rfl rfl rfl (by kernel_rfl) rfl rfl ?_
            refine d_v 7 (fun _ _ _ _ _ h => h) [4, 5] hS rfl rfl rfl (by kernel_rfl) rfl rfl ?_
            cases hc : (x28589.1 != s28160.2.2.2.2.1)
            · replace hf := bif_f hc hf
              refine d_v 8 (fun _ _ _ _ _ h => h) [4, 5] hS rfl rfl rfl (by kernel_rfl) rfl rfl ?_
              refine d_ld (v := (.agg #[(.int .i32 0), (.string ByteArray.empty), (.int .i64 s28160.2.2.2.2.2.2.1)])) 9 0 (fun _ _ _ _ _ h => h) [4, 5] hS rfl rfl rfl rfl rfl (by kernel_rfl) rfl rfl ?_
              refine d_v 11 (fun _ _ _ _ _ h => h) [4, 5] hS rfl rfl rfl (by kernel_rfl) rfl rfl ?_
              refine d_ld (v := (.agg #[(.int .i32 0), (.string ByteArray.empty), (.int .i64 s28160.2.2.2.2.2.2.2)])) 12 1 (fun _ _ _ _ _ h => h) [4, 5] hS rfl rfl rfl rfl rfl (by kernel_rfl) rfl rfl ?_
              refine d_op 10 rfl (by kernel_rfl) (by kernel_rfl) (fun X hX => ?_)
              have hlq := KM.le.refl K28591
              obtain ⟨x28600, hx28601, hf⟩ := bs hf
              refine s_call isf25 (Sat.shut2 hS) (heap_Heap_Len_spec hx28601 h28596) rfl rfl rfl ?_
              rintro _ K28602 _ w hk28603 ⟨a28605, c28606, C28609, rfl, h28607, rfl⟩ hS
              replace hS := hS.open2
              replace hlq := hlq.trans hk28603
              refine d_go [4, 5] [4, 5] [(13, [2])] [some 0] hX hS hlq rfl rfl ⟨rfl, trivial⟩ ?_
              refine d_op 13 rfl (by kernel_rfl) (by kernel_rfl) (fun X hX => ?_)
              have hlq := KM.le.refl K28602
              obtain ⟨x28611, hx28612, hf⟩ := bs hf
              replace h28150 := h28150.mono (hk28592.trans hk28603)
              refine s_call isf26 (Sat.shut2 (hS.sel [2, 3, 0, 1, 4, 5, 6, 7] rfl)) (bonsairef15_Heap_Len_spec hx28612 h28150) rfl rfl rfl ?_
              rintro _ K28613 _ w hk28614 ⟨a28616, c28617, C28620, rfl, h28618, rfl⟩ hS
              replace hS := hS.open2
              replace hlq := hlq.trans hk28614
              refine d_go [4, 5] [4, 5] [(22, [0])] [none] hX hS hlq rfl rfl ⟨rfl, trivial⟩ ?_
              refine d_v 14 (fun _ _ _ _ _ h => h) [4, 5] hS rfl rfl rfl (by kernel_rfl) rfl rfl ?_
              refine d_v 15 (fun _ _ _ _ _ h => h) [4, 5] hS rfl rfl rfl (by kernel_rfl) rfl rfl ?_
              refine d_v 16 (fun _ _ _ _ _ h => h) [4, 5] hS rfl rfl rfl (by kernel_rfl) rfl rfl ?_
              cases hc : (x28600.1 != x28611.1)
              · replace hf := bif_f hc hf
                refine d_v 17 (fun _ _ _ _ _ h => h) [4, 5] hS rfl rfl rfl (by kernel_rfl) rfl rfl ?_
                refine d_ld (v := (.agg #[(.int .i32 0), (.string ByteArray.empty), (.int .i64 s28160.2.2.2.2.2.2.1)])) 18 0 (fun _ _ _ _ _ h => h) [4, 5] hS rfl rfl rfl rfl rfl (by kernel_rfl) rfl rfl ?_
                refine d_v 20 (fun _ _ _ _ _ h => h) [4, 5] hS rfl rfl rfl (by kernel_rfl) rfl rfl ?_
                refine d_ld (v := (.agg #[(.int .i32 0), (.string ByteArray.empty), (.int .i64 s28160.2.2.2.2.2.2.2)])) 21 1 (fun _ _ _ _ _ h => h) [4, 5] hS rfl rfl rfl rfl rfl (by kernel_rfl) rfl rfl ?_
                refine d_op 19 rfl (by kernel_rfl) (by kernel_rfl) (fun X hX => ?_)
                have hlq := KM.le.refl K28613
                obtain ⟨x28622, hx28623, hf⟩ := bs hf
                replace h28607 := h28607.mono hk28614
                refine s_call isf27 (Sat.shut2 (hS.sel [2, 3, 0, 1, 4, 5, 6, 7] rfl)) (heap_Heap_Class_spec hx28623 h28607) rfl rfl rfl ?_
                rintro _ K28624 _ w hk28625 ⟨a28627, c28628, C28631, rfl, h28629, rfl⟩ hS
                replace hS := hS.open2
                replace hlq := hlq.trans hk28625
                refine d_go [4, 5] [4, 5] [(22, [2])] [some 0] hX hS hlq rfl rfl ⟨rfl, trivial⟩ ?_
                refine d_op 22 rfl (by kernel_rfl) (by kernel_rfl) (fun X hX => ?_)
                have hlq := KM.le.refl K28624
                obtain ⟨x28633, hx28634, hf⟩ := bs hf
                replace h28618 := h28618.mono hk28625
                refine s_call isf28 (Sat.shut2 (hS.sel [2, 3, 0, 1, 4, 5, 6, 7] rfl)) (bonsairef15_Heap_Class_spec hx28634 h28618) rfl rfl rfl ?_
                rintro _ K28635 _ w hk28636 ⟨a28638, c28639, C28642, rfl, h28640, rfl⟩ hS
                replace hS := hS.open2
                replace hlq := hlq.trans hk28636
                refine d_go [4, 5] [0, 4, 5] [] [none] hX hS hlq rfl rfl ⟨rfl, trivial⟩ ?_
                refine d_v 23 (fun _ _ _ _ _ h => h) [0, 4, 5] hS rfl rfl rfl (by kernel_rfl) rfl rfl ?_
                refine d_v 24 (fun _ _ _ _ _ h => h) [0, 4, 5] hS rfl rfl rfl (by kernel_rfl) rfl rfl ?_
                refine d_end (by kernel_rfl) ?_
                refine qn ?_
                have hq := Option.some.inj hf
                subst hq
                have hkk1 := (((hk28592.trans hk28603).trans hk28614).trans hk28625).trans hk28636
                replace h28144 := h28144.mono hkk1
                replace h28155 := h28155.mono hkk1
                replace hle := hle.trans hkk1
                replace h28629 := h28629.mono hk28636
                refine s_join hJ _ ⟨K28635, a28627, c28628, C28631, a28638, c28639, C28642, C28158, rfl, hle, h28144, h28629, h28640, h28155, (hS.sel [2, 3, 0, 1, 6, 7] rfl)⟩ ⟨rfl, rfl, rfl, rfl, rfl, rfl, rfl, rfl, trivial⟩
              replace hf := bif_t hc hf
              refine d_no 17 (fun _ _ _ _ _ h => h) [4, 5] hS rfl rfl (by kernel_rfl) rfl rfl ?_
              refine d_no 18 (fun _ _ _ _ _ h => h) [4, 5] hS rfl rfl (by kernel_rfl) rfl rfl ?_
              refine d_no 19 (fun _ _ _ _ _ h => h) [4, 5] hS rfl rfl (by kernel_rfl) rfl rfl ?_
              refine d_no 20 (fun _ _ _ _ _ h => h) [4, 5] hS rfl rfl (by kernel_rfl) rfl rfl ?_
              refine d_no 21 (fun _ _ _ _ _ h => h) [4, 5] hS rfl rfl (by kernel_rfl) rfl rfl ?_
              refine d_hold [4, 5, 0] [] (by kernel_rfl) (by kernel_rfl) (by kernel_rfl) ?_
              refine d_no 22 (fun _ _ _ _ _ h => h) [4, 5, 0] hS rfl rfl (by kernel_rfl) rfl rfl ?_
              refine d_no 23 (fun _ _ _ _ _ h => h) [4, 5, 0] hS rfl rfl (by kernel_rfl) rfl rfl ?_
              refine d_v 24 (fun _ _ _ _ _ h => h) [4, 5, 0] hS rfl rfl rfl (by kernel_rfl) rfl rfl ?_
              refine d_end (by kernel_rfl) ?_
              refine qn ?_
              have hq := Option.some.inj hf
              subst hq
              replace h28144 := h28144.mono ((hk28592.trans hk28603).trans hk28614)
              replace h28155 := h28155.mono ((hk28592.trans hk28603).trans hk28614)
              replace hle := hle.trans ((hk28592.trans hk28603).trans hk28614)
              replace h28607 := h28607.mono hk28614
              refine s_join hJ _ ⟨K28613, a28605, c28606, C28609, a28616, c28617, C28620, C28158, rfl, hle, h28144, h28607, h28618, h28155, (hS.sel [2, 3, 0, 1, 6, 7] rfl)⟩ ⟨rfl, rfl, rfl, rfl, rfl, rfl, rfl, rfl, trivial⟩
            replace hf := bif_t hc hf
            refine d_no 8 (fun _ _ _ _ _ h => h) [4, 5] hS rfl rfl (by kernel_rfl) rfl rfl ?_
            refine d_no 9 (fun _ _ _ _ _ h => h) [4, 5] hS rfl rfl (by kernel_rfl) rfl rfl ?_
            refine d_no 10 (fun _ _ _ _ _ h => h) [4, 5] hS rfl rfl (by kernel_rfl) rfl rfl ?_
            refine d_no 11 (fun _ _ _ _ _ h => h) [4, 5] hS rfl rfl (by kernel_rfl) rfl rfl ?_
            refine d_no 12 (fun _ _ _ _ _ h => h) [4, 5] hS rfl rfl (by kernel_rfl) rfl rfl ?_
            refine d_hold [4, 5] [(22, [2])] (by kernel_rfl) (by kernel_rfl) (by kernel_rfl) ?_
            refine d_no 13 (fun _ _ _ _ _ h => h) [4, 5] hS rfl rfl (by kernel_rfl) rfl rfl ?_
            refine d_no 14 (fun _ _ _ _ _ h => h) [4, 5] hS rfl rfl (by kernel_rfl) rfl rfl ?_
            refine d_v 15 (fun _ _ _ _ _ h => h) [4, 5] hS rfl rfl rfl (by kernel_rfl) rfl rfl ?_
            refine d_v 16 (fun _ _ _ _ _ h => h) [4, 5] hS rfl rfl rfl (by kernel_rfl) rfl rfl ?_
            refine d_no 17 (fun _ _ _ _ _ h => h) [4, 5] hS rfl rfl (by kernel_rfl) rfl rfl ?_
            refine d_no 18 (fun _ _ _ _ _ h => h) [4, 5] hS rfl rfl (by kernel_rfl) rfl rfl ?_
            refine d_no 19 (fun _ _ _ _ _ h => h) [4, 5] hS rfl rfl (by kernel_rfl) rfl rfl ?_
            refine d_no 20 (fun _ _ _ _ _ h => h) [4, 5] hS rfl rfl (by kernel_rfl) rfl rfl ?_
            refine d_no 21 (fun _ _ _ _ _ h => h) [4, 5] hS rfl rfl (by kernel_rfl) rfl rfl ?_
            refine d_hold [4, 5, 2] [] (by kernel_rfl) (by kernel_rfl) (by kernel_rfl) ?_
            refine d_no 22 (fun _ _ _ _ _ h => h) [4, 5, 2] hS rfl rfl (by kernel_rfl) rfl rfl ?_
            refine d_no 23 (fun _ _ _ _ _ h => h) [4, 5, 2] hS rfl rfl (by kernel_rfl) rfl rfl ?_
            refine d_v 24 (fun _ _ _ _ _ h => h) [4, 5, 2] hS rfl rfl rfl (by kernel_rfl) rfl rfl ?_
            refine d_end (by kernel_rfl) ?_
            refine qn ?_
            have hq := Option.some.inj hf
            subst hq
            replace h28144 := h28144.mono hk28592
            replace h28150 := h28150.mono hk28592
            replace h28155 := h28155.mono hk28592
            replace hle := hle.trans hk28592
            refine s_join hJ _ ⟨K28591, a28594, c28595, C28598, a28151, c28152, C28153, C28158, rfl, hle, h28144, h28596, h28150, h28155, (hS.sel [0, 1, 2, 3, 6, 7] rfl)⟩ ⟨rfl, rfl, rfl, rfl, rfl, rfl, rfl, rfl, trivial⟩
          rintro _ w ⟨K28515, a28518, c28519, C28520, a28523, c28524, C28525, C28530, rfl, hle, h28516, h28517, h28522, h28527, hS⟩
          refine s_if rfl (fun hc => ?_) (fun hc => ?_)
          · replace hf := bif_t hc hf
            refine s_seq (s_reg ?_)
            refine s_v rfl rfl rfl ?_
            refine s_nil (qn ?_)
            replace hS : Sat w K28515 (flat [_]) := (hS.sel [5] rfl)
            refine s_rets (qrb (qrt (qrt (qrb (qrb (qrt ?_))))))
            replace hf := LR.esc_some hf hm26269
            refine qrt (qrb (qrt ?_))
            replace hf := LR.esc_some hf hm14330
            have hq := Option.some.inj hf
            subst hq
            refine s_ret1 rfl (rv_t rfl) ?_
            exact ⟨K28515, _, hle, rfl, Sat.nilG (hS.sel [0] rfl)⟩
          replace hf := bif_f hc hf
          refine s_skip (qbn (qn (s_reg ?_)))
          iterate 3 refine s_v rfl rfl rfl ?_
          refine s_nil (qn ?_)
          refine s_join hY _ ⟨s28532.1, s28532.2.1, s28532.2.2.1, s28532.2.2.2.1, s28532.2.2.2.2.1, s28532.2.2.2.2.2.1, w64 (v27890 + 1), K28515, a28518, c28519, C28520, a28523, c28524, C28525, C28530, hf, rfl, hle, h28516, h28517, h28522, h28527, hS⟩ ⟨rfl, rfl, rfl, rfl, rfl, rfl, rfl, trivial⟩
        replace hf := bif_f hc hf
        refine s_exit (qxt (qxt (qxb (qbn (qn ?_)))))
        have hq := Option.some.inj hf
        subst hq
        refine s_join hJ _ ⟨(), K27867, C27882, rfl, rfl, hle, h27868, h27879, (hS.sel [4, 5] rfl)⟩ ⟨rfl, rfl, rfl, rfl, trivial⟩
      rintro _ w ⟨s26266, K26259, C26264, rfl, rfl, hle, h26260, h26261, hS⟩
      replace hf := LR.elim_brk hm26269
      refine s_reg ?_
      iterate 2 refine s_v rfl rfl rfl ?_
      refine s_nil (qn ?_)
      refine s_join hY _ ⟨v23882, w64 (v23883 + 1), K26259, a23878, c23879, C26264, hf, rfl, hle, h26260, h26261, hS⟩ ⟨rfl, rfl, rfl, rfl, trivial⟩
    replace hf := bif_f hc hf
    refine s_exit (qxt (qxt (qxb (qn ?_))))
    have hq := Option.some.inj hf
    subst hq
    refine s_join hJ _ ⟨(), K23875, rfl, rfl, hle, (hS.sel [1] rfl)⟩ trivial
  rintro _ w ⟨s14327, K14326, rfl, rfl, hle, hS⟩
  replace hf := LR.elim_brk hm14330
  refine s_seq (s_reg ?_)
  refine s_v rfl rfl rfl ?_
  refine s_nil (qn (s_rets ?_))
  have hq := Option.some.inj hf
  subst hq
  refine s_ret1 rfl (rv_t rfl) ?_
  exact ⟨K14326, _, hle, rfl, Sat.nilG (hS.sel [0] rfl)⟩
end Go.Proofs.Ytgaldjnnfkdohaa
