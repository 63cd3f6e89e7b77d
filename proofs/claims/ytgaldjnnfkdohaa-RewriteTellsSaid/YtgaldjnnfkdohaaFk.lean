/- Functions of the program, and their walks: what each reckons, and that its code reckons it. -/
import Derived.Test.YtgaldjnnfkdohaaFg
set_option linter.unusedVariables false
set_option linter.unusedSimpArgs false
set_option maxHeartbeats 0
set_option maxRecDepth 100000
namespace Go.Proofs.Ytgaldjnnfkdohaa
open Go Go.Fw
noncomputable def bod32 : Code := Try.f32.body.getD .skip
theorem isf32 : IsFn Try.prog 32 Try.f32 bod32 := ⟨Try.func32, rfl, by decide⟩
noncomputable def bod7 : Code := Try.f7.body.getD .skip
theorem isf7 : IsFn Try.prog 7 Try.f7 bod7 := ⟨Try.func7, rfl, by decide⟩
-- 32 bonsai/bonsailaw19.with
def bonsailaw19_with.l1 (fu : Nat) (p11 : (List Arr3_uint8)) (v5095 : Int) : Nat → (List (List api_Instr)) → Int → Int → Option (List (List api_Instr))
  | 0, _, _, _ => none
  | k + 1, v5943, v5944, v5945 => (idx p11 v5095).bind fun x5946 => bif decide (v5945 < (w64 (Int.tmod x5946.e1 4))) then ((idx p11 v5095).bind fun x5951 => ((idx p11 v5095).bind fun x6015 => bif decide (x6015.e2 > 200) then ((idx p11 v5095).bind fun x6044 => guardB ((w64 ((v5943.length : Int) + 1)) != 0) ((idx ([19, 20] : List Int) (Int.tmod v5945 2)).bind fun x6054 => some (x6054, Int.tmod (w64 (v5944 + (w64 x6044.e2))) (w64 ((v5943.length : Int) + 1))))) else (some (w64 ((w64 (Int.tmod x5951.e2 7)) + 1), 0))).bind fun s6013 => (idx v5943 v5944).bind fun x6063 => guardB (roomy x6063.length 1 88) (bonsailaw19_with.l1 fu p11 v5095 k (v5943.set (v5944 : Int).toNat (x6063 ++ ([(api_Instr.mk s6013.1 0 s6013.2 ByteArray.empty ByteArray.empty ByteArray.empty ByteArray.empty)] : List api_Instr))) v5944 (w64 (v5945 + 1)))) else (some v5943)
def bonsailaw19_with.l0 (fu : Nat) (p11 : (List Arr3_uint8)) : Nat → (List (List api_Instr)) → Int → Option (List (List api_Instr))
  | 0, _, _ => none
  | k + 1, v5094, v5095 => (bif decide (v5095 < (p11.length : Int)) then (some (decide ((v5094.length : Int) > 0))) else (some false)).bind fun s5103 => bif s5103 then (((idx p11 v5095).bind fun x5605 => guardB ((v5094.length : Int) != 0) (bonsailaw19_with.l1 fu p11 v5095 fu v5094 (Int.tmod (w64 x5605.e0) (v5094.length : Int)) 0)).bind fun s5603 => bonsailaw19_with.l0 fu p11 k s5603 (w64 (v5095 + 1))) else (some v5094)
def bonsailaw19_with.fn (fu : Nat) (p1 : api_Method) (p11 : (List Arr3_uint8)) : Option (List (List api_Instr)) := guardB (mayMake (p1.Code.length : Int) 24) ((bonsailaw19_with.l0 fu p11 fu (List.replicate (p1.Code.length : Int).toNat ([] : (List api_Instr))) 0).bind fun s3062 => some s3062)
theorem bonsailaw19_with_spec {K : KM} {fu : Nat} {p1 : api_Method} {p11 : (List Arr3_uint8)} {r : (List (List api_Instr))} {a2 : Option Addr} {c3 : Nat} {a5 : Option Addr} {c6 : Nat} {a8 : Option Addr} {c9 : Nat} {a12 : Option Addr} {c13 : Nat} (hf : bonsailaw19_with.fn fu p1 p11 = some r) (h14 : SlK 121 K a12 c13 p11) : Sp Try.prog 32 [(.agg (vv67 p1 a2 c3 a5 c6 a8 c9).toArray), (.slice a12 p11.length c13)] K [] (fun K' C v => ∃ (a6099 : Option Addr) (c6100 : Nat), v = (.slice a6099 r.length c6100) ∧ SlK 64 K' a6099 c6100 r) := by
  unfold bonsailaw19_with.fn at hf
  refine spec_enter isf32 rfl ?_
  intro w L hS
  replace hS : Sat w K (flat [L]) := hS
  have hle := KM.le.refl K
  unfold bod32 Try.f32
  dsimp only [Option.getD_some, argSlots]
  refine s_seq (s_reg ?_)
  refine s_bx hS rfl rfl rfl ?_
  intro b16 w hS
  replace hS : Sat w K (flat ([(b16, Cl (vv67 p1 a2 c3 a5 c6 a8 c9) 67)] :: _)) := hS
  refine s_v rfl rfl rfl ?_
  refine s_nil (qn (s_seq (s_reg ?_)))
  refine s_v rfl rfl rfl ?_
  refine s_ld 0 hS rfl rfl rfl rfl rfl ?_
  refine s_v rfl rfl rfl ?_
  obtain ⟨hm18, hf⟩ := gs hf
  refine s_mkx (e := 64) (D := (Dm.flat 77 : Dm (List api_Instr))) [] [.slice none 0 0] ⟨none, 0, rfl, OwnS.nil⟩ hS rfl rfl rfl rfl (mayMake_le hm18).1 (mayMake_le hm18).2 rfl rfl rfl rfl rfl rfl ?_
  intro a19 c20 w C21 h22 hS
  refine s_v rfl rfl rfl ?_
  refine s_nil (qn ?_)
  replace hS : Sat w K (flat [_, _]) := (hS.sel [0, 2] rfl)
  obtain ⟨s3062, hst3063, hf⟩ := bs hf
  refine s_cut (fun τ w => ∃ (K3056 : KM) (C3060 : Chunks), τ = [(5, (.slice a19 s3062.length c20))] ∧ KM.le K K3056 ∧ OwnD 64 (Dm.flat 77 : Dm (List api_Instr)) K3056 (.slice a19 s3062.length c20) s3062 C3060 ∧ Sat w K3056 (flat [C3060, L])) (fun J hJ => ?_) ?_
  · replace hf := hst3063
    refine s_seq (s_reg ?_)
    refine s_v rfl rfl rfl ?_
    refine s_nil (qn (s_block ?_))
    refine s_loopp (fun n τ w => ∃ (v5094 : (List (List api_Instr))) (v5095 : Int) (K5087 : KM) (C5092 : Chunks), bonsailaw19_with.l0 fu p11 n v5094 v5095 = some s3062 ∧ τ = [(1, (.slice a12 p11.length c13)), (5, (.slice a19 v5094.length c20)), (6, (.int .i64 v5095))] ∧ KM.le K K5087 ∧ SlK 121 K5087 a12 c13 p11 ∧ OwnD 64 (Dm.flat 77 : Dm (List api_Instr)) K5087 (.slice a19 v5094.length c20) v5094 C5092 ∧ Sat w K5087 (flat [C5092, L])) _ ⟨(List.replicate (p1.Code.length : Int).toNat ([] : (List api_Instr))), 0, K, C21, hf, rfl, hle, h14, h22, hS⟩ ⟨rfl, rfl, rfl, trivial⟩ ?_ ?_
    · rintro _ _ ⟨_, _, _, _, hf, _⟩
      exact absurd hf (by simp [bonsailaw19_with.l0])
    rintro n _ w Y hY ⟨v5094, v5095, K5087, C5092, hf, rfl, hle, h5088, h5089, hS⟩
    rw [bonsailaw19_with.l0] at hf
    refine s_seq (s_seq (s_reg ?_))
    iterate 5 refine s_v rfl rfl rfl ?_
    obtain ⟨s5103, hst5104, hf⟩ := bs hf
    refine r_cut [_, _, _, _] (fun τ w => ∃ (K5096 : KM) (C5101 : Chunks), τ = [(1, (.slice a12 p11.length c13)), (5, (.slice a19 v5094.length c20)), (6, (.int .i64 v5095)), (22, (.bool s5103))] ∧ KM.le K K5096 ∧ SlK 121 K5096 a12 c13 p11 ∧ OwnD 64 (Dm.flat 77 : Dm (List api_Instr)) K5096 (.slice a19 v5094.length c20) v5094 C5101 ∧ Sat w K5096 (flat [C5101, L])) rfl (fun J hJ => ?_) ?_
    · replace hf := hst5104
      cases hc : (decide (v5095 < (p11.length : Int)))
      · replace hf := bif_f hc hf
        refine s_no rfl rfl ?_
        refine s_no rfl rfl ?_
        refine s_no rfl rfl ?_
        refine s_v rfl rfl rfl ?_
        have hq := Option.some.inj hf
        subst hq
        refine r_join hJ _ ⟨K5087, C5092, rfl, hle, h5088, h5089, hS⟩ ⟨rfl, rfl, rfl, rfl, trivial⟩
      replace hf := bif_t hc hf
      iterate 4 refine s_v rfl rfl rfl ?_
      have hq := Option.some.inj hf
      subst hq
      refine r_join hJ _ ⟨K5087, C5092, rfl, hle, h5088, h5089, hS⟩ ⟨rfl, rfl, rfl, rfl, trivial⟩
    rintro _ w ⟨K5096, C5101, rfl, hle, h5097, h5098, hS⟩
    refine s_nil (qn ?_)
    refine s_if rfl (fun hc => ?_) (fun hc => ?_)
    · replace hf := bif_t hc hf
      refine s_skip (qn ?_)
      obtain ⟨s5603, hst5604, hf⟩ := bs hf
      refine s_cut (fun τ w => ∃ (K5596 : KM) (C5601 : Chunks), τ = [(1, (.slice a12 p11.length c13)), (5, (.slice a19 s5603.length c20)), (6, (.int .i64 v5095))] ∧ KM.le K K5596 ∧ SlK 121 K5596 a12 c13 p11 ∧ OwnD 64 (Dm.flat 77 : Dm (List api_Instr)) K5596 (.slice a19 s5603.length c20) s5603 C5601 ∧ Sat w K5596 (flat [C5601, L])) (fun J hJ => ?_) ?_
      · replace hf := hst5604
        refine s_block (s_seq (s_reg ?_))
        iterate 2 refine s_v rfl rfl rfl ?_
        obtain ⟨x5605, hx5606, hf⟩ := bs hf
        refine s_ixk h5097 rfl hx5606 rfl rfl rfl rfl rfl rfl rfl ?_
        rintro b5607 o5608 _ rfl h5609
        refine s_v rfl rfl rfl ?_
        refine s_ldk 0 hS h5609 rfl rfl rfl rfl ?_
        iterate 3 refine s_v rfl rfl rfl ?_
        obtain ⟨hm5610, hf⟩ := gs hf
        refine s_rem hm5610 rfl rfl rfl rfl ?_
        refine s_v rfl rfl rfl ?_
        refine s_nil (qn (s_seq (s_reg ?_)))
        refine s_v rfl rfl rfl ?_
        refine s_nil (qn (s_block ?_))
        refine s_loopp (fun n τ w => ∃ (v5943 : (List (List api_Instr))) (v5944 : Int) (v5945 : Int) (K5936 : KM) (C5941 : Chunks), bonsailaw19_with.l1 fu p11 v5095 n v5943 v5944 v5945 = some s5603 ∧ τ = [(1, (.slice a12 p11.length c13)), (5, (.slice a19 v5943.length c20)), (6, (.int .i64 v5095)), (7, (.int .i64 v5944)), (8, (.int .i64 v5945))] ∧ KM.le K K5936 ∧ SlK 121 K5936 a12 c13 p11 ∧ OwnD 64 (Dm.flat 77 : Dm (List api_Instr)) K5936 (.slice a19 v5943.length c20) v5943 C5941 ∧ Sat w K5936 (flat [C5941, L])) _ ⟨v5094, Int.tmod (w64 x5605.e0) (v5094.length : Int), 0, K5096, C5101, hf, rfl, hle, h5097, h5098, hS⟩ ⟨rfl, rfl, rfl, rfl, rfl, trivial⟩ ?_ ?_
        · rintro _ _ ⟨_, _, _, _, _, hf, _⟩
          exact absurd hf (by simp [bonsailaw19_with.l1])
        rintro n _ w Y hY ⟨v5943, v5944, v5945, K5936, C5941, hf, rfl, hle, h5937, h5938, hS⟩
        rw [bonsailaw19_with.l1] at hf
        refine s_seq (s_seq (s_reg ?_))
        iterate 3 refine s_v rfl rfl rfl ?_
        obtain ⟨x5946, hx5947, hf⟩ := bs hf
        refine s_ixk h5937 rfl hx5947 rfl rfl rfl rfl rfl rfl rfl ?_
        rintro b5948 o5949 _ rfl h5950
        refine s_v rfl rfl rfl ?_
        refine s_ldk 1 hS h5950 rfl rfl rfl rfl ?_
        iterate 3 refine s_v rfl rfl rfl ?_
        refine s_nil (qn ?_)
        refine s_if rfl (fun hc => ?_) (fun hc => ?_)
        · replace hf := bif_t hc hf
          refine s_skip (qn (s_seq (s_block (s_seq (s_reg ?_)))))
          iterate 2 refine s_v rfl rfl rfl ?_
          obtain ⟨x5951, hx5952, hf⟩ := bs hf
          refine s_ixk h5937 rfl hx5952 rfl rfl rfl rfl rfl rfl rfl ?_
          rintro b5953 o5954 _ rfl h5955
          refine s_v rfl rfl rfl ?_
          refine s_ldk 2 hS h5955 rfl rfl rfl rfl ?_
          iterate 3 refine s_v rfl rfl rfl ?_
          refine s_v (v := (.agg #[(.int .i64 (w64 ((w64 (Int.tmod x5951.e2 7)) + 1))), (.int .i32 0), (.int .i64 0), (.string ByteArray.empty), (.string ByteArray.empty), (.string ByteArray.empty), (.string ByteArray.empty)])) rfl rfl rfl ?_
          refine s_al hS rfl rfl rfl ?_
          intro b5956 w hS
          replace hS : Sat w K5936 (flat ([(b5956, Cl [(.int .i64 0), (.int .i32 0), (.int .i64 0), (.string ByteArray.empty), (.string ByteArray.empty), (.string ByteArray.empty), (.string ByteArray.empty)] 77)] :: _)) := hS
          refine s_st (cs' := [(.int .i64 (w64 ((w64 (Int.tmod x5951.e2 7)) + 1))), (.int .i32 0), (.int .i64 0), (.string ByteArray.empty), (.string ByteArray.empty), (.string ByteArray.empty), (.string ByteArray.empty)]) 0 hS rfl rfl rfl rfl rfl ?_
          intro w hS
          replace hS : Sat w _ (flat [_, _, _]) := hS
          refine s_nil (qn ?_)
          obtain ⟨s6013, hst6014, hf⟩ := bs hf
          refine s_cut (fun τ w => ∃ (K6006 : KM) (C6011 : Chunks), τ = [(1, (.slice a12 p11.length c13)), (5, (.slice a19 v5943.length c20)), (6, (.int .i64 v5095)), (7, (.int .i64 v5944)), (8, (.int .i64 v5945)), (9, (.pointer (some ⟨b5956, 0, none⟩)))] ∧ KM.le K K6006 ∧ SlK 121 K6006 a12 c13 p11 ∧ OwnD 64 (Dm.flat 77 : Dm (List api_Instr)) K6006 (.slice a19 v5943.length c20) v5943 C6011 ∧ Sat w K6006 (flat [C6011, [(b5956, Cl [(.int .i64 s6013.1), (.int .i32 0), (.int .i64 s6013.2), (.string ByteArray.empty), (.string ByteArray.empty), (.string ByteArray.empty), (.string ByteArray.empty)] 77)], L])) (fun J hJ => ?_) ?_
          · replace hf := hst6014
            refine s_seq (s_reg ?_)
            iterate 2 refine s_v rfl rfl rfl ?_
            obtain ⟨x6015, hx6016, hf⟩ := bs hf
            refine s_ixk h5937 rfl hx6016 rfl rfl rfl rfl rfl rfl rfl ?_
            rintro b6017 o6018 _ rfl h6019
            refine s_v rfl rfl rfl ?_
            refine s_ldk 2 hS h6019 rfl rfl rfl rfl ?_
            refine s_v rfl rfl rfl ?_
            refine s_nil (qn ?_)
            refine s_if rfl (fun hc => ?_) (fun hc => ?_)
            · replace hf := bif_t hc hf
              refine d_start [] [] hS ?_
              intro w hS
              refine d_v 1 (fun _ _ _ _ _ h => h) [] hS rfl rfl rfl (by kernel_rfl) rfl rfl ?_
              refine d_v 2 (fun _ _ _ _ _ h => h) [] hS rfl rfl rfl (by kernel_rfl) rfl rfl ?_
              refine d_v 5 (fun _ _ _ _ _ h => h) [] hS rfl rfl rfl (by kernel_rfl) rfl rfl ?_
              refine d_v 6 (fun _ _ _ _ _ h => h) [] hS rfl rfl rfl (by kernel_rfl) rfl rfl ?_
              refine d_v 7 (fun _ _ _ _ _ h => h) [] hS rfl rfl rfl (by kernel_rfl) rfl rfl ?_
              obtain ⟨x6044, hx6045, hf⟩ := bs hf
              refine d_ixk 8 (fun _ _ _ _ _ h => h) [] hS h5937 rfl hx6045 rfl rfl rfl rfl rfl rfl rfl (by kernel_rfl) rfl rfl ?_
              rintro b6046 o6047 _ rfl h6048
              refine d_v 9 (fun _ _ _ _ _ h => h) [] hS rfl rfl rfl (by kernel_rfl) rfl rfl ?_
              refine d_ldk 10 2 (fun _ _ _ _ _ h => h) [] hS h6048 rfl rfl rfl rfl (by kernel_rfl) rfl rfl ?_
              refine d_v 11 (fun _ _ _ _ _ h => h) [] hS rfl rfl rfl (by kernel_rfl) rfl rfl ?_
              refine d_v 12 (fun _ _ _ _ _ h => h) [] hS rfl rfl rfl (by kernel_rfl) rfl rfl ?_
              refine d_v 13 (fun _ _ _ _ _ h => h) [] hS rfl rfl rfl (by kernel_rfl) rfl rfl ?_
              refine d_v 14 (fun _ _ _ _ _ h => h) [] hS rfl rfl rfl (by kernel_rfl) rfl rfl ?_
              refine d_v 15 (fun _ _ _ _ _ h => h) [] hS rfl rfl rfl (by kernel_rfl) rfl rfl ?_
              obtain ⟨hm6049, hf⟩ := gs hf
              refine d_rem 16 (fun _ _ _ _ _ h => h) [] hS hm6049 rfl rfl rfl rfl (by kernel_rfl) rfl rfl ?_
              refine d_op 0 rfl (by kernel_rfl) (by kernel_rfl) (fun X hX => ?_)
              have hlq := KM.le.refl K5936
              refine s_bwc (cs := [(.int .i64 19), (.int .i64 20)]) hS rfl rfl rfl rfl rfl rfl rfl rfl rfl rfl ?_
              intro b6050 w hS
              refine d_go [] [0] [] [] hX hS hlq rfl rfl trivial ?_
              have h6052 : OwnS 3 K5936 (.slice (some ⟨b6050, 0, none⟩) 2 2) ([19, 20] : List Int) [(b6050, Cl [(.int .i64 19), (.int .i64 20)] 3)] := OwnS.lit ⟨[(.int .i64 19)], _, rfl, rfl, ⟨[(.int .i64 20)], _, rfl, rfl, rfl⟩⟩ rfl rfl
              generalize hCg_ : ([(b6050, Cl [(.int .i64 19), (.int .i64 20)] 3)] : Chunks) = C6053 at hS h6052 ⊢
              clear hCg_
              obtain ⟨x6054, hx6055, hf⟩ := bs hf
              refine d_ixo 3 0 (fun _ _ _ _ _ h => h) [0] hS rfl h6052 hx6055 rfl rfl rfl rfl rfl rfl rfl (by kernel_rfl) rfl rfl ?_
              intro b6056 l6057 cs6060 l6058 hcs_ hC6061 hun6059
              obtain rfl := hcs_
              subst hC6061
              have hq6062 := KM.le.refl K5936
              refine d_ldm 4 0 0 (fun _ _ _ _ _ h => h) [0] hS rfl rfl rfl rfl rfl (by kernel_rfl) rfl rfl ?_
              refine d_v (v := (.agg #[(.int .i64 x6054), (.int .i32 0), (.int .i64 (Int.tmod (w64 (v5944 + (w64 x6044.e2))) (w64 ((v5943.length : Int) + 1)))), (.string ByteArray.empty), (.string ByteArray.empty), (.string ByteArray.empty), (.string ByteArray.empty)])) 17 (fun _ _ _ _ _ h => h) [0] hS rfl rfl rfl (by kernel_rfl) rfl rfl ?_
              refine d_op 18 rfl (by kernel_rfl) (by kernel_rfl) (fun X hX => ?_)
              have hlq := KM.le.refl K5936
              refine s_st (cs' := [(.int .i64 x6054), (.int .i32 0), (.int .i64 (Int.tmod (w64 (v5944 + (w64 x6044.e2))) (w64 ((v5943.length : Int) + 1)))), (.string ByteArray.empty), (.string ByteArray.empty), (.string ByteArray.empty), (.string ByteArray.empty)]) 1 hS rfl rfl rfl rfl rfl ?_
              intro w hS
              replace hS : Sat w _ (flat [_, _, _, _]) := hS
              refine d_go [0] [0] [] [] hX hS hlq rfl rfl trivial ?_
              refine d_end (by kernel_rfl) ?_
              refine qn ?_
              have hq := Option.some.inj hf
              subst hq
              refine s_join hJ _ ⟨K5936, C5941, rfl, hle, h5937, h5938, (hS.sel [2, 1, 3] rfl)⟩ ⟨rfl, rfl, rfl, rfl, rfl, rfl, trivial⟩
            replace hf := bif_f hc hf
            refine s_skip (qn ?_)
            have hq := Option.some.inj hf
            subst hq
            refine s_join hJ _ ⟨K5936, C5941, rfl, hle, h5937, h5938, (hS.sel [1, 0, 2] rfl)⟩ ⟨rfl, rfl, rfl, rfl, rfl, rfl, trivial⟩
          rintro _ w ⟨K6006, C6011, rfl, hle, h6007, h6008, hS⟩
          obtain ⟨x6063, hx6064, hf⟩ := bs hf
          obtain ⟨b6065, l6066, _, l6068, C6069, C6070, ⟨a6073, c6074, rfl, h6075⟩, hfo6071, hS, hun6072⟩ := ix_foc (hS.sel [0, 1, 2] rfl) h6008 hx6064
          have hq6078 := KM.le.refl K6006
          replace hS : Sat w _ (flat [_, _, _, _, _]) := hS
          refine d_start [3] [(10, [0])] hS ?_
          intro w hS
          refine d_v 0 (fun _ _ _ _ _ h => h) [3] hS rfl rfl rfl (by kernel_rfl) rfl rfl ?_
          refine d_v 1 (fun _ _ _ _ _ h => h) [3] hS rfl rfl rfl (by kernel_rfl) rfl rfl ?_
          refine d_v 2 (fun _ _ _ _ _ h => h) [3] hS rfl rfl rfl (by kernel_rfl) rfl rfl ?_
          refine d_v 3 (fun _ _ _ _ _ h => h) [3] hS rfl rfl rfl (by kernel_rfl) rfl rfl ?_
          refine d_ixf 4 (fun _ _ _ _ _ h => h) [3] hS hfo6071 rfl rfl rfl rfl rfl rfl rfl (by kernel_rfl) rfl rfl ?_
          refine d_ldmh 5 0 0 (fun _ _ _ _ _ h => h) [3] hS rfl rfl rfl (by kernel_rfl) rfl rfl (by kernel_rfl) rfl rfl ?_
          refine d_ld (v := (.agg #[(.int .i64 s6013.1), (.int .i32 0), (.int .i64 s6013.2), (.string ByteArray.empty), (.string ByteArray.empty), (.string ByteArray.empty), (.string ByteArray.empty)])) 6 0 (fun _ _ _ _ _ h => h) [3] hS rfl rfl rfl rfl rfl (by kernel_rfl) rfl rfl ?_
          refine d_op 7 rfl (by kernel_rfl) (by kernel_rfl) (fun X hX => ?_)
          have hlq := KM.le.refl K6006
          refine s_bwc (cs := [(.int .i64 s6013.1), (.int .i32 0), (.int .i64 s6013.2), (.string ByteArray.empty), (.string ByteArray.empty), (.string ByteArray.empty), (.string ByteArray.empty)]) hS rfl rfl rfl rfl rfl rfl rfl rfl rfl rfl ?_
          intro b6086 w hS
          refine d_go [4] [4] [(10, [1])] [some 0] hX hS hlq rfl rfl ⟨rfl, trivial⟩ ?_
          refine d_op 8 rfl (by kernel_rfl) (by kernel_rfl) (fun X hX => ?_)
          have hlq := KM.le.refl K6006
          obtain ⟨hm6088, hf⟩ := gs hf
          refine s_appv (e := 77) (ys := ([(api_Instr.mk s6013.1 0 s6013.2 ByteArray.empty ByteArray.empty ByteArray.empty ByteArray.empty)] : List api_Instr)) 2 0 hS rfl h6075 rfl ⟨[(.int .i64 s6013.1), (.int .i32 0), (.int .i64 s6013.2), (.string ByteArray.empty), (.string ByteArray.empty), (.string ByteArray.empty), (.string ByteArray.empty)], _, rfl, rfl, rfl⟩ rfl rfl rfl rfl rfl rfl rfl rfl (roomy_le hm6088) rfl rfl rfl ?_
          intro a6089 c6090 w C6091 h6092 hS
          replace hS : Sat w _ (flat [_, _, _, _, _, _]) := hS
          refine d_go [4] [4] [(10, [1])] [some 0] hX hS hlq rfl rfl ⟨rfl, trivial⟩ ?_
          refine d_ixf 9 (fun _ _ _ _ _ h => h) [4] hS hfo6071 rfl rfl rfl rfl rfl rfl rfl (by kernel_rfl) rfl rfl ?_
          refine d_op 10 rfl (by kernel_rfl) (by kernel_rfl) (fun X hX => ?_)
          have hlq := KM.le.refl K6006
          refine s_stm (cs' := [(.slice a6089 ((x6063 ++ ([(api_Instr.mk s6013.1 0 s6013.2 ByteArray.empty ByteArray.empty ByteArray.empty ByteArray.empty)] : List api_Instr)).length) c6090)]) 1 0 hS rfl rfl rfl rfl rfl ?_
          intro w hS
          replace hS : Sat w _ (flat [_, _, _, _, _, _]) := hS
          refine d_go [4] [1, 4] [] [none] hX hS hlq rfl rfl ⟨rfl, trivial⟩ ?_
          refine d_end (by kernel_rfl) ?_
          refine qbn (qn ?_)
          replace hS : Sat w K6006 (flat [_, _, _, _]) := (hS.sel [1, 2, 3, 5] rfl)
          refine s_reg ?_
          iterate 3 refine s_v rfl rfl rfl ?_
          refine s_nil (qn ?_)
          have h6093 := hun6072 K6006 _ _ _ hq6078 (show (Dm.flat 77 : Dm (List api_Instr)).rep K6006 (x6063 ++ ([(api_Instr.mk s6013.1 0 s6013.2 ByteArray.empty ByteArray.empty ByteArray.empty ByteArray.empty)] : List api_Instr)) [(.slice a6089 ((x6063 ++ ([(api_Instr.mk s6013.1 0 s6013.2 ByteArray.empty ByteArray.empty ByteArray.empty ByteArray.empty)] : List api_Instr)).length) c6090)] _ from ⟨a6089, c6090, rfl, h6092⟩)
          replace hS := Sat.join3 (hS.sel [0, 1, 2, 3] rfl)
          generalize hCg_ : ([(b6065, Cl (l6066 ++ (([(.slice a6089 ((x6063 ++ ([(api_Instr.mk s6013.1 0 s6013.2 ByteArray.empty ByteArray.empty ByteArray.empty ByteArray.empty)] : List api_Instr)).length) c6090)] : List Value) ++ l6068)) 64)] ++ (C6091 ++ C6070) : Chunks) = C6094 at hS h6093
          clear hCg_
          have hl6095 := OwnD.len h6093
          replace hS : Sat w _ (flat [_, _]) := hS
          refine s_join hY _ ⟨(v5943.set (v5944 : Int).toNat (x6063 ++ ([(api_Instr.mk s6013.1 0 s6013.2 ByteArray.empty ByteArray.empty ByteArray.empty ByteArray.empty)] : List api_Instr))), v5944, w64 (v5945 + 1), K6006, C6094, hf, rfl, hle, h6007, (OwnD.norm h6093), (by (try rw [hl6095]); exact hS)⟩ ⟨rfl, (by rw [hl6095]; rfl), rfl, rfl, rfl, trivial⟩
        replace hf := bif_f hc hf
        refine s_exit (qxt (qxt (qxb (qbn (qn ?_)))))
        have hq := Option.some.inj hf
        subst hq
        refine s_join hJ _ ⟨K5936, C5941, rfl, hle, h5937, h5938, hS⟩ ⟨rfl, rfl, rfl, trivial⟩
      rintro _ w ⟨K5596, C5601, rfl, hle, h5597, h5598, hS⟩
      refine s_reg ?_
      iterate 3 refine s_v rfl rfl rfl ?_
      refine s_nil (qn ?_)
      refine s_join hY _ ⟨s5603, w64 (v5095 + 1), K5596, C5601, hf, rfl, hle, h5597, h5598, hS⟩ ⟨rfl, rfl, rfl, trivial⟩
    replace hf := bif_f hc hf
    refine s_exit (qxt (qxt (qxb (qn ?_))))
    have hq := Option.some.inj hf
    subst hq
    refine s_join hJ _ ⟨K5096, C5101, rfl, hle, h5098, hS⟩ ⟨rfl, trivial⟩
  rintro _ w ⟨K3056, C3060, rfl, hle, h3057, hS⟩
  refine s_seq (s_reg ?_)
  iterate 2 refine s_v rfl rfl rfl ?_
  refine s_nil (qn (s_rets ?_))
  obtain ⟨K6096, hk6097, h6098, hS⟩ := h3057.freeze (hS.sel [0, 1] rfl)
  replace hS : Sat w _ (flat [_]) := hS
  have hq := Option.some.inj hf
  subst hq
  refine s_ret1 rfl (rv_t rfl) ?_
  replace hle := hle.trans hk6097
  exact ⟨K6096, _, hle, ⟨a19, c20, rfl, h6098⟩, Sat.nilG (hS.sel [0] rfl)⟩
-- 7 bonsai/bonsailaw19.RewriteTells
def bonsailaw19_RewriteTells.l0 (fu : Nat) (p21 : Int) : Nat → (List api_Instr) → Int → Option (List api_Instr)
  | 0, _, _ => none
  | k + 1, v201, v202 => bif decide (v202 < (w64 (1990 + (w64 (Int.tmod p21 12))))) then (guardB (roomy v201.length 1 88) (bonsailaw19_RewriteTells.l0 fu p21 k (v201 ++ ([(api_Instr.mk 40 0 0 ByteArray.empty ByteArray.empty ByteArray.empty ByteArray.empty)] : List api_Instr)) (w64 (v202 + 1)))) else (some v201)
def bonsailaw19_RewriteTells.l2 (fu : Nat) (x7170 : api_Method) : Nat → (List (List (List api_Instr))) → Int → Option (LR Unit (LR Unit Bool))
  | 0, _, _ => none
  | k + 1, v8300, v8301 => bif decide (v8301 < 3) then ((idx v8300 v8301).bind fun x8303 => (rewrite_Method.fn fu x7170 x8303).bind fun x8315 => (bonsairef18_Rewritten.fn fu x7170 x8303).bind fun x8335 => (bif !(x8315.2 == x8335.2) then (some true) else (bif x8315.2 then ((bonsairef1_SameMethod.fn fu x8315.1 x8335.1).bind fun x8477 => bif !x8477 then (some true) else ((rewrite_Fits.fn x8335.1).bind fun x8482 => (bonsairef18_Fits.fn x8335.1).bind fun x8487 => some (!(x8482 == x8487)))) else (bif (x8315.1.Code.length : Int) != 0 then (some true) else (bif !(x8315.1.Name.toList == (⟨#[]⟩ : ByteArray).toList) then (some true) else ((rewrite_Fits.fn x8335.1).bind fun x8461 => (bonsairef18_Fits.fn x8335.1).bind fun x8466 => some (!(x8461 == x8466))))))).bind fun s8428 => bif s8428 then (LR.esc (LR.esc (some false))) else (bonsailaw19_RewriteTells.l2 fu x7170 k v8300 (w64 (v8301 + 1)))) else (some (.brk ()))
def bonsailaw19_RewriteTells.l1 (fu : Nat) (p1 : api_Method) (p16 : (List Arr3_uint8)) (p20 : Int) (s142 : (List api_Instr)) (x4436 : api_Method) : Nat → Int → Option (LR Unit Bool)
  | 0, _ => none
  | k + 1, v7165 => bif decide (v7165 < 3) then ((idx [p1, x4436, (api_Method.mk ByteArray.empty [] (api_Type.mk 0 ByteArray.empty) true false 0 s142 [])] v7165).bind fun x7170 => (bonsailaw19_with.fn fu x7170 p16).bind fun x7190 => LR.then (guardB ((w64 ((x7190.length : Int) + 1)) != 0) (guardB (subOk x7190.length 0 (w64 ((x7190.length : Int) - (Int.tmod (w64 p20) (w64 ((x7190.length : Int) + 1)))))) (bonsailaw19_RewriteTells.l2 fu x7170 fu [x7190, (subl x7190 0 (w64 ((x7190.length : Int) - (Int.tmod (w64 p20) (w64 ((x7190.length : Int) + 1)))))), []] 0))) fun s7848 => (rewrite_Fits.fn x7170).bind fun x8502 => (bonsairef18_Fits.fn x7170).bind fun x8507 => bif !(x8502 == x8507) then (LR.esc (some false)) else (bonsailaw19_RewriteTells.l1 fu p1 p16 p20 s142 x4436 k (w64 (v7165 + 1)))) else (some (.brk ()))
def bonsailaw19_RewriteTells.fn (fu : Nat) (p1 : api_Method) (p11 : Arr4_uint8) (p12 : (List Int)) (p16 : (List Arr3_uint8)) (p20 : Int) (p21 : Int) : Option Bool := (bonsailaw19_known.fn fu).bind fun x27 => bif !x27 then (some false) else ((bonsaihelp_Method.fn fu p1).bind fun x32 => (bif !x32 then (some true) else (some (decide ((p12.length : Int) > 40)))).bind fun s43 => (bif s43 then (some true) else (some (decide ((p16.length : Int) > 20)))).bind fun s51 => bif s51 then (some true) else ((bonsaiseat_Archive.fn fu p11 p12 []).bind fun x53 => (bonsailaw19_RewriteTells.l0 fu p21 fu ([] : List api_Instr) 0).bind fun s142 => LR.then ((idx x53.Classes 0).bind fun x4422 => (idx x4422.Methods 0).bind fun x4436 => bonsailaw19_RewriteTells.l1 fu p1 p16 p20 s142 x4436 fu 0) fun s4360 => some true))
theorem bonsailaw19_RewriteTells_spec {K : KM} {fu : Nat} {p1 : api_Method} {p11 : Arr4_uint8} {p12 : (List Int)} {p16 : (List Arr3_uint8)} {p20 : Int} {p21 : Int} {r : Bool} {a2 : Option Addr} {c3 : Nat} {a5 : Option Addr} {c6 : Nat} {a8 : Option Addr} {c9 : Nat} {a13 : Option Addr} {c14 : Nat} {a17 : Option Addr} {c18 : Nat} (hf : bonsailaw19_RewriteTells.fn fu p1 p11 p12 p16 p20 p21 = some r) (h4 : SlK 63 K a2 c3 p1.Params) (h7 : SlK 77 K a5 c6 p1.Code) (h10 : SlK 92 K a8 c9 p1.Handlers) (h15 : SlK 5 K a13 c14 p12) (h19 : SlK 121 K a17 c18 p16) : Sp Try.prog 7 [(.agg (vv67 p1 a2 c3 a5 c6 a8 c9).toArray), (.agg (vv68 p11).toArray), (.slice a13 p12.length c14), (.slice a17 p16.length c18), (.int .u8 p20), (.int .u16 p21)] K [] (fun K' C v => v = (.bool r)) := by
  unfold bonsailaw19_RewriteTells.fn at hf
  refine spec_enter isf7 rfl ?_
  intro w L hS
  replace hS : Sat w K (flat [L]) := hS
  have hle := KM.le.refl K
  unfold bod7 Try.f7
  dsimp only [Option.getD_some, argSlots]
  refine s_seq (s_reg ?_)
  refine s_bx hS rfl rfl rfl ?_
  intro b23 w hS
  replace hS : Sat w K (flat ([(b23, Cl (vv67 p1 a2 c3 a5 c6 a8 c9) 67)] :: _)) := hS
  refine s_bx hS rfl rfl rfl ?_
  intro b25 w hS
  replace hS : Sat w K (flat ([(b25, Cl (vv68 p11) 68)] :: _)) := hS
  refine s_v rfl rfl rfl ?_
  refine s_nil (qn (s_seq (s_seq (s_reg ?_))))
  obtain ⟨x27, hx28, hf⟩ := bs hf
  refine s_call isf29 hS.nilG (bonsailaw19_known_spec hx28) rfl rfl rfl ?_
  rintro _ K29 C31 w hk30 rfl hS
  replace hS := hS.drop1
  refine s_v rfl rfl rfl ?_
  refine s_nil (qn ?_)
  refine s_if rfl (fun hc => ?_) (fun hc => ?_)
  · replace hf := bif_t hc hf
    refine s_seq (s_reg ?_)
    refine s_v rfl rfl rfl ?_
    refine s_nil (qn ?_)
    replace hS : Sat w K29 (flat [_]) := (hS.sel [2] rfl)
    refine s_rets (qrt ?_)
    have hq := Option.some.inj hf
    subst hq
    refine s_ret1 rfl (rv_t rfl) ?_
    replace hle := hle.trans hk30
    exact ⟨K29, _, hle, rfl, Sat.nilG (hS.sel [0] rfl)⟩
  replace hf := bif_f hc hf
  refine s_skip (qn (s_seq (s_seq (s_reg ?_))))
  refine s_ld (v := (.agg (vv67 p1 a2 c3 a5 c6 a8 c9).toArray)) 1 hS rfl rfl rfl rfl rfl ?_
  obtain ⟨x32, hx33, hf⟩ := bs hf
  replace h4 := h4.mono hk30
  replace h7 := h7.mono hk30
  replace h10 := h10.mono hk30
  refine s_call isf30 hS.nilG (bonsaihelp_Method_spec hx33 h4 h7 h10) rfl rfl rfl ?_
  rintro _ K34 C36 w hk35 rfl hS
  replace hS := hS.drop1
  iterate 2 refine s_v rfl rfl rfl ?_
  obtain ⟨s43, hst44, hf⟩ := bs hf
  refine r_cut [_, _, _, _] (fun τ w => ∃ (K37 : KM), τ = [(2, (.slice a13 p12.length c14)), (3, (.slice a17 p16.length c18)), (4, (.int .u8 p20)), (5, (.int .u16 p21)), (6, (.pointer (some ⟨b23, 0, none⟩))), (7, (.pointer (some ⟨b25, 0, none⟩))), (34, (.bool s43))] ∧ KM.le K K37 ∧ SlK 5 K37 a13 c14 p12 ∧ SlK 121 K37 a17 c18 p16 ∧ SlK 63 K37 a2 c3 p1.Params ∧ SlK 77 K37 a5 c6 p1.Code ∧ SlK 92 K37 a8 c9 p1.Handlers ∧ Sat w K37 (flat [[(b23, Cl (vv67 p1 a2 c3 a5 c6 a8 c9) 67)], [(b25, Cl (vv68 p11) 68)], L])) rfl (fun J hJ => ?_) ?_
  · replace hf := hst44
    cases hc : (!x32)
    · replace hf := bif_f hc hf
      iterate 4 refine s_v rfl rfl rfl ?_
      have hq := Option.some.inj hf
      subst hq
      replace h15 := h15.mono (hk30.trans hk35)
      replace h19 := h19.mono (hk30.trans hk35)
      replace hle := hle.trans (hk30.trans hk35)
      replace h4 := h4.mono hk35
      replace h7 := h7.mono hk35
      replace h10 := h10.mono hk35
      refine r_join hJ _ ⟨K34, rfl, hle, h15, h19, h4, h7, h10, (hS.sel [1, 0, 2] rfl)⟩ ⟨rfl, rfl, rfl, rfl, rfl, rfl, rfl, trivial⟩
    replace hf := bif_t hc hf
    refine s_no rfl rfl ?_
    refine s_no rfl rfl ?_
    refine s_no rfl rfl ?_
    refine s_v rfl rfl rfl ?_
    have hq := Option.some.inj hf
    subst hq
    replace h15 := h15.mono (hk30.trans hk35)
    replace h19 := h19.mono (hk30.trans hk35)
    replace hle := hle.trans (hk30.trans hk35)
    replace h4 := h4.mono hk35
    replace h7 := h7.mono hk35
    replace h10 := h10.mono hk35
    refine r_join hJ _ ⟨K34, rfl, hle, h15, h19, h4, h7, h10, (hS.sel [1, 0, 2] rfl)⟩ ⟨rfl, rfl, rfl, rfl, rfl, rfl, rfl, trivial⟩
  rintro _ w ⟨K37, rfl, hle, h38, h39, h40, h41, h42, hS⟩
  refine s_v rfl rfl rfl ?_
  obtain ⟨s51, hst52, hf⟩ := bs hf
  refine r_cut [_, _, _, _] (fun τ w => ∃ (K45 : KM), τ = [(2, (.slice a13 p12.length c14)), (3, (.slice a17 p16.length c18)), (4, (.int .u8 p20)), (5, (.int .u16 p21)), (6, (.pointer (some ⟨b23, 0, none⟩))), (7, (.pointer (some ⟨b25, 0, none⟩))), (39, (.bool s51))] ∧ KM.le K K45 ∧ SlK 5 K45 a13 c14 p12 ∧ SlK 121 K45 a17 c18 p16 ∧ SlK 63 K45 a2 c3 p1.Params ∧ SlK 77 K45 a5 c6 p1.Code ∧ SlK 92 K45 a8 c9 p1.Handlers ∧ Sat w K45 (flat [[(b23, Cl (vv67 p1 a2 c3 a5 c6 a8 c9) 67)], [(b25, Cl (vv68 p11) 68)], L])) rfl (fun J hJ => ?_) ?_
  · replace hf := hst52
    cases hc : s43
    · replace hf := bif_f hc hf
      iterate 4 refine s_v rfl rfl rfl ?_
      have hq := Option.some.inj hf
      subst hq
      refine r_join hJ _ ⟨K37, rfl, hle, h38, h39, h40, h41, h42, hS⟩ ⟨rfl, rfl, rfl, rfl, rfl, rfl, rfl, trivial⟩
    replace hf := bif_t hc hf
    refine s_no rfl rfl ?_
    refine s_no rfl rfl ?_
    refine s_no rfl rfl ?_
    refine s_v rfl rfl rfl ?_
    have hq := Option.some.inj hf
    subst hq
    refine r_join hJ _ ⟨K37, rfl, hle, h38, h39, h40, h41, h42, hS⟩ ⟨rfl, rfl, rfl, rfl, rfl, rfl, rfl, trivial⟩
  rintro _ w ⟨K45, rfl, hle, h46, h47, h48, h49, h50, hS⟩
  refine s_nil (qn ?_)
  refine s_if rfl (fun hc => ?_) (fun hc => ?_)
  · replace hf := bif_t hc hf
    refine s_seq (s_reg ?_)
    refine s_v rfl rfl rfl ?_
    refine s_nil (qn ?_)
    replace hS : Sat w K45 (flat [_]) := (hS.sel [2] rfl)
    refine s_rets (qrt ?_)
    have hq := Option.some.inj hf
    subst hq
    refine s_ret1 rfl (rv_t rfl) ?_
    exact ⟨K45, _, hle, rfl, Sat.nilG (hS.sel [0] rfl)⟩
  replace hf := bif_f hc hf
  refine s_skip (qn (s_seq (s_reg ?_)))
  refine s_ld (v := (.agg (vv68 p11).toArray)) 1 hS rfl rfl rfl rfl rfl ?_
  refine s_v rfl rfl rfl ?_
  obtain ⟨x53, hx54, hf⟩ := bs hf
  refine s_call isf31 hS.nilG (bonsaiseat_Archive_spec hx54 h46 SlK.nil) rfl rfl rfl ?_
  rintro _ K55 C57 w hk56 ⟨a58, c59, rfl, h60⟩ hS
  replace hS := hS.drop1
  refine s_al hS rfl rfl rfl ?_
  intro b61 w hS
  replace hS : Sat w K55 (flat ([(b61, Cl [(.slice none 0 0)] 74)] :: _)) := hS
  refine s_st (cs' := [(.slice a58 x53.Classes.length c59)]) 0 hS rfl rfl rfl rfl rfl ?_
  intro w hS
  replace hS : Sat w _ (flat [_, _, _, _]) := hS
  refine s_nil (qn ?_)
  replace hS : Sat w K55 (flat [_, _, _]) := (hS.sel [0, 1, 3] rfl)
  refine s_seq (s_reg ?_)
  refine s_v (v := (.agg #[(.string ByteArray.empty), (.slice none 0 0), (.int .i64 0), (.string ByteArray.empty), (.bool true), (.bool false), (.int .i64 0), (.slice none 0 0), (.slice none 0 0)])) rfl rfl rfl ?_
  refine s_al hS rfl rfl rfl ?_
  intro b63 w hS
  replace hS : Sat w K55 (flat ([(b63, Cl [(.string ByteArray.empty), (.slice none 0 0), (.int .i64 0), (.string ByteArray.empty), (.bool false), (.bool false), (.int .i64 0), (.slice none 0 0), (.slice none 0 0)] 67)] :: _)) := hS
  refine s_st (cs' := [(.string ByteArray.empty), (.slice none 0 0), (.int .i64 0), (.string ByteArray.empty), (.bool true), (.bool false), (.int .i64 0), (.slice none 0 0), (.slice none 0 0)]) 0 hS rfl rfl rfl rfl rfl ?_
  intro w hS
  replace hS : Sat w _ (flat [_, _, _, _]) := hS
  refine s_nil (qn ?_)
  obtain ⟨s142, hst143, hf⟩ := bs hf
  refine s_cut (fun τ w => ∃ (K131 : KM) (a138 : Option Addr) (c139 : Nat) (C140 : Chunks), τ = [(3, (.slice a17 p16.length c18)), (4, (.int .u8 p20)), (6, (.pointer (some ⟨b23, 0, none⟩))), (13, (.pointer (some ⟨b61, 0, none⟩))), (14, (.pointer (some ⟨b63, 0, none⟩)))] ∧ KM.le K K131 ∧ SlK 121 K131 a17 c18 p16 ∧ SlK 63 K131 a2 c3 p1.Params ∧ SlK 77 K131 a5 c6 p1.Code ∧ SlK 92 K131 a8 c9 p1.Handlers ∧ SlK 81 K131 a58 c59 x53.Classes ∧ OwnS 77 K131 (.slice a138 s142.length c139) s142 C140 ∧ Sat w K131 (flat [[(b23, Cl (vv67 p1 a2 c3 a5 c6 a8 c9) 67)], [(b61, Cl [(.slice a58 x53.Classes.length c59)] 74)], [(b63, Cl [(.string ByteArray.empty), (.slice none 0 0), (.int .i64 0), (.string ByteArray.empty), (.bool true), (.bool false), (.int .i64 0), (.slice a138 s142.length c139), (.slice none 0 0)] 67)], C140, L])) (fun J hJ => ?_) ?_
  · replace hf := hst143
    refine s_seq (s_reg ?_)
    refine s_v rfl rfl rfl ?_
    refine s_nil (qn (s_block ?_))
    replace hS := hS.nilG
    replace h47 := h47.mono hk56
    replace h48 := h48.mono hk56
    replace h49 := h49.mono hk56
    replace h50 := h50.mono hk56
    replace hle := hle.trans hk56
    refine s_loopp (fun n τ w => ∃ (v201 : (List api_Instr)) (v202 : Int) (K190 : KM) (a197 : Option Addr) (c198 : Nat) (C199 : Chunks), bonsailaw19_RewriteTells.l0 fu p21 n v201 v202 = some s142 ∧ τ = [(3, (.slice a17 p16.length c18)), (4, (.int .u8 p20)), (5, (.int .u16 p21)), (6, (.pointer (some ⟨b23, 0, none⟩))), (13, (.pointer (some ⟨b61, 0, none⟩))), (14, (.pointer (some ⟨b63, 0, none⟩))), (15, (.int .i64 v202))] ∧ KM.le K K190 ∧ SlK 121 K190 a17 c18 p16 ∧ SlK 63 K190 a2 c3 p1.Params ∧ SlK 77 K190 a5 c6 p1.Code ∧ SlK 92 K190 a8 c9 p1.Handlers ∧ SlK 81 K190 a58 c59 x53.Classes ∧ OwnS 77 K190 (.slice a197 v201.length c198) v201 C199 ∧ Sat w K190 (flat [[(b23, Cl (vv67 p1 a2 c3 a5 c6 a8 c9) 67)], [(b61, Cl [(.slice a58 x53.Classes.length c59)] 74)], [(b63, Cl [(.string ByteArray.empty), (.slice none 0 0), (.int .i64 0), (.string ByteArray.empty), (.bool true), (.bool false), (.int .i64 0), (.slice a197 v201.length c198), (.slice none 0 0)] 67)], C199, L])) _ ⟨([] : List api_Instr), 0, K55, none, 0, [], hf, rfl, hle, h47, h48, h49, h50, h60, OwnS.nil, (hS.sel [3, 2, 1, 0, 4] rfl)⟩ ⟨rfl, rfl, rfl, rfl, rfl, rfl, rfl, trivial⟩ ?_ ?_
    · rintro _ _ ⟨_, _, _, _, _, _, hf, _⟩
      exact absurd hf (by simp [bonsailaw19_RewriteTells.l0])
    rintro n _ w Y hY ⟨v201, v202, K190, a197, c198, C199, hf, rfl, hle, h191, h192, h193, h194, h195, h196, hS⟩
    rw [bonsailaw19_RewriteTells.l0] at hf
    refine s_seq (s_seq (s_reg ?_))
    iterate 6 refine s_v rfl rfl rfl ?_
    refine s_nil (qn ?_)
    refine s_if rfl (fun hc => ?_) (fun hc => ?_)
    · replace hf := bif_t hc hf
      refine s_skip (qn (s_seq (s_block (s_reg ?_))))
      refine s_v rfl rfl rfl ?_
      refine s_ld 2 hS rfl rfl rfl rfl rfl ?_
      refine s_v (v := (.agg #[(.int .i64 40), (.int .i32 0), (.int .i64 0), (.string ByteArray.empty), (.string ByteArray.empty), (.string ByteArray.empty), (.string ByteArray.empty)])) rfl rfl rfl ?_
      refine s_bwc (cs := [(.int .i64 40), (.int .i32 0), (.int .i64 0), (.string ByteArray.empty), (.string ByteArray.empty), (.string ByteArray.empty), (.string ByteArray.empty)]) hS rfl rfl rfl rfl rfl rfl rfl rfl rfl rfl ?_
      intro b204 w hS
      obtain ⟨hm206, hf⟩ := gs hf
      refine s_appv (e := 77) (ys := ([(api_Instr.mk 40 0 0 ByteArray.empty ByteArray.empty ByteArray.empty ByteArray.empty)] : List api_Instr)) 4 0 hS rfl h196 rfl ⟨[(.int .i64 40), (.int .i32 0), (.int .i64 0), (.string ByteArray.empty), (.string ByteArray.empty), (.string ByteArray.empty), (.string ByteArray.empty)], _, rfl, rfl, rfl⟩ rfl rfl rfl rfl rfl rfl rfl rfl (roomy_le hm206) rfl rfl rfl ?_
      intro a207 c208 w C209 h210 hS
      replace hS : Sat w _ (flat [_, _, _, _, _, _]) := hS
      refine s_v rfl rfl rfl ?_
      refine s_st (cs' := [(.string ByteArray.empty), (.slice none 0 0), (.int .i64 0), (.string ByteArray.empty), (.bool true), (.bool false), (.int .i64 0), (.slice a207 ((v201 ++ ([(api_Instr.mk 40 0 0 ByteArray.empty ByteArray.empty ByteArray.empty ByteArray.empty)] : List api_Instr)).length) c208), (.slice none 0 0)]) 3 hS rfl rfl rfl rfl rfl ?_
      intro w hS
      replace hS : Sat w _ (flat [_, _, _, _, _, _]) := hS
      refine s_nil (qbn (qn ?_))
      replace hS : Sat w K190 (flat [_, _, _, _, _]) := (hS.sel [1, 2, 3, 4, 5] rfl)
      refine s_reg ?_
      iterate 3 refine s_v rfl rfl rfl ?_
      refine s_nil (qn ?_)
      refine s_join hY _ ⟨(v201 ++ ([(api_Instr.mk 40 0 0 ByteArray.empty ByteArray.empty ByteArray.empty ByteArray.empty)] : List api_Instr)), w64 (v202 + 1), K190, a207, c208, C209, hf, rfl, hle, h191, h192, h193, h194, h195, h210, hS⟩ ⟨rfl, rfl, rfl, rfl, rfl, rfl, rfl, trivial⟩
    replace hf := bif_f hc hf
    refine s_exit (qxt (qxt (qxb (qn ?_))))
    have hq := Option.some.inj hf
    subst hq
    refine s_join hJ _ ⟨K190, a197, c198, C199, rfl, hle, h191, h192, h193, h194, h195, h196, hS⟩ ⟨rfl, rfl, rfl, rfl, rfl, trivial⟩
  rintro _ w ⟨K131, a138, c139, C140, rfl, hle, h132, h133, h134, h135, h136, h137, hS⟩
  obtain ⟨res4361, hst4362, hm4363⟩ := LR.then_some hf
  refine s_cut (fun τ w => ∃ (s4360 : Unit) (K4359 : KM), res4361 = .brk s4360 ∧ τ = [] ∧ KM.le K K4359 ∧ Sat w K4359 (flat [L])) (fun J hJ => ?_) ?_
  · replace hf := hst4362
    refine s_seq ?_
    refine d_start [0, 1, 2] [] hS ?_
    intro w hS
    refine d_ld (v := (.agg (vv67 p1 a2 c3 a5 c6 a8 c9).toArray)) 0 0 (fun _ _ _ _ _ h => h) [0, 1, 2] hS rfl rfl rfl rfl rfl (by kernel_rfl) rfl rfl ?_
    refine d_v 1 (fun _ _ _ _ _ h => h) [0, 1, 2] hS rfl rfl rfl (by kernel_rfl) rfl rfl ?_
    refine d_ld 2 1 (fun _ _ _ _ _ h => h) [0, 1, 2] hS rfl rfl rfl rfl rfl (by kernel_rfl) rfl rfl ?_
    obtain ⟨x4422, hx4423, hf⟩ := bs hf
    refine d_ixk 3 (fun _ _ _ _ _ h => h) [0, 1, 2] hS h136 rfl hx4423 rfl rfl rfl rfl rfl rfl rfl (by kernel_rfl) rfl rfl ?_
    rintro b4433 o4434 _ ⟨a4424, c4425, a4427, c4428, a4430, c4431, rfl, h4426, h4429, h4432⟩ h4435
    refine d_v 4 (fun _ _ _ _ _ h => h) [0, 1, 2] hS rfl rfl rfl (by kernel_rfl) rfl rfl ?_
    refine d_ldk 5 5 (fun _ _ _ _ _ h => h) [0, 1, 2] hS h4435 rfl rfl rfl rfl (by kernel_rfl) rfl rfl ?_
    obtain ⟨x4436, hx4437, hf⟩ := bs hf
    refine d_ixk 6 (fun _ _ _ _ _ h => h) [0, 1, 2] hS h4432 rfl hx4437 rfl rfl rfl rfl rfl rfl rfl (by kernel_rfl) rfl rfl ?_
    rintro b4447 o4448 _ ⟨a4438, c4439, a4441, c4442, a4444, c4445, rfl, h4440, h4443, h4446⟩ h4449
    refine d_ldk (v := (.agg (vv67 x4436 a4438 c4439 a4441 c4442 a4444 c4445).toArray)) 7 0 (fun _ _ _ _ _ h => h) [0, 1, 2] hS h4449 rfl rfl rfl rfl (by kernel_rfl) rfl rfl ?_
    refine d_ld (v := (.agg #[(.string ByteArray.empty), (.slice none 0 0), (.int .i64 0), (.string ByteArray.empty), (.bool true), (.bool false), (.int .i64 0), (.slice a138 s142.length c139), (.slice none 0 0)])) 8 2 (fun _ _ _ _ _ h => h) [0, 1, 2] hS rfl rfl rfl rfl rfl (by kernel_rfl) rfl rfl ?_
    refine d_v 11 (fun _ _ _ _ _ h => h) [0, 1, 2] hS rfl rfl rfl (by kernel_rfl) rfl rfl ?_
    refine d_op 9 rfl (by kernel_rfl) (by kernel_rfl) (fun X hX => ?_)
    have hlq := KM.le.refl K131
    refine s_bwc (cs := ((vv67 p1 a2 c3 a5 c6 a8 c9) ++ ((vv67 x4436 a4438 c4439 a4441 c4442 a4444 c4445) ++ ([(.string ByteArray.empty), (.slice none 0 0), (.int .i64 0), (.string ByteArray.empty), (.bool true), (.bool false), (.int .i64 0), (.slice a138 s142.length c139), (.slice none 0 0)] ++ [])))) hS rfl rfl rfl rfl rfl rfl rfl rfl rfl rfl ?_
    intro b4450 w hS
    refine d_go [1, 2, 3] [1, 2, 3] [] [] hX hS hlq rfl rfl trivial ?_
    refine d_v 10 (fun _ _ _ _ _ h => h) [1, 2, 3] hS rfl rfl rfl (by kernel_rfl) rfl rfl ?_
    refine d_end (by kernel_rfl) ?_
    refine qn ?_
    replace hS : Sat w K131 (flat [_, _, _]) := (hS.sel [0, 4, 5] rfl)
    refine s_block ?_
    obtain ⟨K7166, hk7167, h7168, hS⟩ := h137.freeze (hS.sel [1, 0, 2] rfl)
    replace hS : Sat w _ (flat [_, _]) := hS
    replace h133 := h133.mono hk7167
    replace h134 := h134.mono hk7167
    replace h135 := h135.mono hk7167
    replace h4440 := h4440.mono hk7167
    replace h4443 := h4443.mono hk7167
    replace h4446 := h4446.mono hk7167
    have h7169 : OwnS 67 K7166 (.slice (some ⟨b4450, 0, none⟩) 3 3) [p1, x4436, (api_Method.mk ByteArray.empty [] (api_Type.mk 0 ByteArray.empty) true false 0 s142 [])] [(b4450, Cl ((vv67 p1 a2 c3 a5 c6 a8 c9) ++ ((vv67 x4436 a4438 c4439 a4441 c4442 a4444 c4445) ++ ([(.string ByteArray.empty), (.slice none 0 0), (.int .i64 0), (.string ByteArray.empty), (.bool true), (.bool false), (.int .i64 0), (.slice a138 s142.length c139), (.slice none 0 0)] ++ []))) 67)] := OwnS.lit ⟨(vv67 p1 a2 c3 a5 c6 a8 c9), _, rfl, ⟨a2, c3, a5, c6, a8, c9, rfl, h133, h134, h135⟩, ⟨(vv67 x4436 a4438 c4439 a4441 c4442 a4444 c4445), _, rfl, ⟨a4438, c4439, a4441, c4442, a4444, c4445, rfl, h4440, h4443, h4446⟩, ⟨[(.string ByteArray.empty), (.slice none 0 0), (.int .i64 0), (.string ByteArray.empty), (.bool true), (.bool false), (.int .i64 0), (.slice a138 s142.length c139), (.slice none 0 0)], _, rfl, ⟨none, 0, a138, c139, none, 0, rfl, SlK.nil, h7168, SlK.nil⟩, rfl⟩⟩⟩ rfl rfl
    replace h132 := h132.mono hk7167
    replace hle := hle.trans hk7167
    refine s_loopp (fun n τ w => ∃ (v7165 : Int) (K7158 : KM) (a7161 : Option Addr) (c7162 : Nat) (C7163 : Chunks), bonsailaw19_RewriteTells.l1 fu p1 p16 p20 s142 x4436 n v7165 = some res4361 ∧ τ = [(3, (.slice a17 p16.length c18)), (4, (.int .u8 p20)), (67, (.slice a7161 ([p1, x4436, (api_Method.mk ByteArray.empty [] (api_Type.mk 0 ByteArray.empty) true false 0 s142 [])].length) c7162)), (68, (.int .i64 3)), (69, (.int .i64 v7165))] ∧ KM.le K K7158 ∧ SlK 121 K7158 a17 c18 p16 ∧ OwnS 67 K7158 (.slice a7161 ([p1, x4436, (api_Method.mk ByteArray.empty [] (api_Type.mk 0 ByteArray.empty) true false 0 s142 [])].length) c7162) [p1, x4436, (api_Method.mk ByteArray.empty [] (api_Type.mk 0 ByteArray.empty) true false 0 s142 [])] C7163 ∧ Sat w K7158 (flat [C7163, L])) _ ⟨0, K7166, (some ⟨b4450, 0, none⟩), 3, [(b4450, Cl ((vv67 p1 a2 c3 a5 c6 a8 c9) ++ ((vv67 x4436 a4438 c4439 a4441 c4442 a4444 c4445) ++ ([(.string ByteArray.empty), (.slice none 0 0), (.int .i64 0), (.string ByteArray.empty), (.bool true), (.bool false), (.int .i64 0), (.slice a138 s142.length c139), (.slice none 0 0)] ++ []))) 67)], hf, rfl, hle, h132, h7169, hS⟩ ⟨rfl, rfl, rfl, rfl, rfl, trivial⟩ ?_ ?_
    · rintro _ _ ⟨_, _, _, _, _, hf, _⟩
      exact absurd hf (by simp [bonsailaw19_RewriteTells.l1])
    rintro n _ w Y hY ⟨v7165, K7158, a7161, c7162, C7163, hf, rfl, hle, h7159, h7160, hS⟩
    rw [bonsailaw19_RewriteTells.l1] at hf
    refine s_seq (s_reg ?_)
    refine s_v rfl rfl rfl ?_
    refine s_nil (qn (s_seq ?_))
    refine s_if rfl (fun hc => ?_) (fun hc => ?_)
    · replace hf := bif_t hc hf
      refine s_skip (qn (s_seq (s_block (s_seq (s_reg ?_)))))
      obtain ⟨x7170, hx7171, hf⟩ := bs hf
      refine s_ixo 0 hS rfl h7160 hx7171 rfl rfl rfl rfl rfl rfl rfl ?_
      intro b7181 l7182 cs7185 l7183 hcs_ hC7186 hun7184
      obtain ⟨a7172, c7173, a7175, c7176, a7178, c7179, rfl, h7174, h7177, h7180⟩ := hcs_
      subst hC7186
      have hq7187 := KM.le.refl K7158
      refine s_ldm (v := (.agg (vv67 x7170 a7172 c7173 a7175 c7176 a7178 c7179).toArray)) 0 0 hS rfl rfl rfl rfl rfl ?_
      refine s_al hS rfl rfl rfl ?_
      intro b7188 w hS
      replace hS : Sat w K7158 (flat ([(b7188, Cl [(.string ByteArray.empty), (.slice none 0 0), (.int .i64 0), (.string ByteArray.empty), (.bool false), (.bool false), (.int .i64 0), (.slice none 0 0), (.slice none 0 0)] 67)] :: _)) := hS
      refine s_st (cs' := (vv67 x7170 a7172 c7173 a7175 c7176 a7178 c7179)) 0 hS rfl rfl rfl rfl rfl ?_
      intro w hS
      replace hS : Sat w _ (flat [_, _, _]) := hS
      refine s_nil (qn (s_seq (s_reg ?_)))
      refine s_ld (v := (.agg (vv67 x7170 a7172 c7173 a7175 c7176 a7178 c7179).toArray)) 0 hS rfl rfl rfl rfl rfl ?_
      refine s_v rfl rfl rfl ?_
      obtain ⟨x7190, hx7191, hf⟩ := bs hf
      refine s_call isf32 hS.nilG (bonsailaw19_with_spec hx7191 h7159) rfl rfl rfl ?_
      rintro _ K7192 C7194 w hk7193 ⟨a7195, c7196, rfl, h7197⟩ hS
      replace hS := hS.drop1
      refine s_v rfl rfl rfl ?_
      refine s_nil (qn ?_)
      obtain ⟨res7849, hst7850, hm7851⟩ := LR.then_some hf
      refine s_cut (fun τ w => ∃ (s7848 : Unit) (K7838 : KM) (C7846 : Chunks), res7849 = .brk s7848 ∧ τ = [(3, (.slice a17 p16.length c18)), (4, (.int .u8 p20)), (17, (.pointer (some ⟨b7188, 0, none⟩))), (67, (.slice a7161 ([p1, x4436, (api_Method.mk ByteArray.empty [] (api_Type.mk 0 ByteArray.empty) true false 0 s142 [])].length) c7162)), (68, (.int .i64 3)), (69, (.int .i64 v7165))] ∧ KM.le K K7838 ∧ SlK 121 K7838 a17 c18 p16 ∧ SlK 63 K7838 a7172 c7173 x7170.Params ∧ SlK 77 K7838 a7175 c7176 x7170.Code ∧ SlK 92 K7838 a7178 c7179 x7170.Handlers ∧ OwnS 67 K7838 (.slice a7161 ([p1, x4436, (api_Method.mk ByteArray.empty [] (api_Type.mk 0 ByteArray.empty) true false 0 s142 [])].length) c7162) [p1, x4436, (api_Method.mk ByteArray.empty [] (api_Type.mk 0 ByteArray.empty) true false 0 s142 [])] C7846 ∧ Sat w K7838 (flat [[(b7188, Cl (vv67 x7170 a7172 c7173 a7175 c7176 a7178 c7179) 67)], C7846, L])) (fun J hJ => ?_) ?_
      · replace hf := hst7850
        refine s_seq (s_reg ?_)
        iterate 9 refine s_v rfl rfl rfl ?_
        obtain ⟨hm7852, hf⟩ := gs hf
        refine s_rem hm7852 rfl rfl rfl rfl ?_
        refine s_v rfl rfl rfl ?_
        obtain ⟨hm7853, hf⟩ := gs hf
        refine s_sl (zl := 0) (zh := w64 ((x7190.length : Int) - (Int.tmod (w64 p20) (w64 ((x7190.length : Int) + 1))))) h7197 rfl hm7853 rfl rfl rfl rfl rfl ⟨_, rfl⟩ rfl rfl ?_
        intro a7854 c7855 h7856
        refine s_bwc (cs := [(.slice a7195 x7190.length c7196), (.slice a7854 ((subl x7190 0 (w64 ((x7190.length : Int) - (Int.tmod (w64 p20) (w64 ((x7190.length : Int) + 1)))))).length) c7855), (.slice none 0 0)]) hS rfl rfl rfl rfl rfl rfl rfl rfl rfl rfl ?_
        intro b7857 w hS
        iterate 2 refine s_v rfl rfl rfl ?_
        refine s_nil (qn (s_block ?_))
        have h8302 : OwnS 82 K7192 (.slice (some ⟨b7857, 0, none⟩) 3 3) [x7190, (subl x7190 0 (w64 ((x7190.length : Int) - (Int.tmod (w64 p20) (w64 ((x7190.length : Int) + 1)))))), []] [(b7857, Cl [(.slice a7195 x7190.length c7196), (.slice a7854 ((subl x7190 0 (w64 ((x7190.length : Int) - (Int.tmod (w64 p20) (w64 ((x7190.length : Int) + 1)))))).length) c7855), (.slice none 0 0)] 82)] := OwnS.lit ⟨[(.slice a7195 x7190.length c7196)], _, rfl, ⟨a7195, c7196, rfl, h7197⟩, ⟨[(.slice a7854 ((subl x7190 0 (w64 ((x7190.length : Int) - (Int.tmod (w64 p20) (w64 ((x7190.length : Int) + 1)))))).length) c7855)], _, rfl, ⟨a7854, c7855, rfl, h7856⟩, ⟨[(.slice none 0 0)], _, rfl, ⟨none, 0, rfl, SlK.nil⟩, rfl⟩⟩⟩ rfl rfl
        replace h7159 := h7159.mono hk7193
        replace h7160 := h7160.mono hk7193
        replace h7174 := h7174.mono hk7193
        replace h7177 := h7177.mono hk7193
        replace h7180 := h7180.mono hk7193
        replace hle := hle.trans hk7193
        refine s_loopp (fun n τ w => ∃ (v8300 : (List (List (List api_Instr)))) (v8301 : Int) (K8285 : KM) (C8293 : Chunks) (a8296 : Option Addr) (c8297 : Nat) (C8298 : Chunks), bonsailaw19_RewriteTells.l2 fu x7170 n v8300 v8301 = some res7849 ∧ τ = [(3, (.slice a17 p16.length c18)), (4, (.int .u8 p20)), (17, (.pointer (some ⟨b7188, 0, none⟩))), (67, (.slice a7161 ([p1, x4436, (api_Method.mk ByteArray.empty [] (api_Type.mk 0 ByteArray.empty) true false 0 s142 [])].length) c7162)), (68, (.int .i64 3)), (69, (.int .i64 v7165)), (88, (.slice a8296 v8300.length c8297)), (89, (.int .i64 3)), (90, (.int .i64 v8301))] ∧ KM.le K K8285 ∧ SlK 121 K8285 a17 c18 p16 ∧ SlK 63 K8285 a7172 c7173 x7170.Params ∧ SlK 77 K8285 a7175 c7176 x7170.Code ∧ SlK 92 K8285 a7178 c7179 x7170.Handlers ∧ OwnS 67 K8285 (.slice a7161 ([p1, x4436, (api_Method.mk ByteArray.empty [] (api_Type.mk 0 ByteArray.empty) true false 0 s142 [])].length) c7162) [p1, x4436, (api_Method.mk ByteArray.empty [] (api_Type.mk 0 ByteArray.empty) true false 0 s142 [])] C8293 ∧ OwnS 82 K8285 (.slice a8296 v8300.length c8297) v8300 C8298 ∧ Sat w K8285 (flat [[(b7188, Cl (vv67 x7170 a7172 c7173 a7175 c7176 a7178 c7179) 67)], C8293, C8298, L])) _ ⟨[x7190, (subl x7190 0 (w64 ((x7190.length : Int) - (Int.tmod (w64 p20) (w64 ((x7190.length : Int) + 1)))))), []], 0, K7192, [(b7181, Cl (l7182 ++ (((vv67 x7170 a7172 c7173 a7175 c7176 a7178 c7179) : List Value) ++ l7183)) 67)], (some ⟨b7857, 0, none⟩), 3, [(b7857, Cl [(.slice a7195 x7190.length c7196), (.slice a7854 ((subl x7190 0 (w64 ((x7190.length : Int) - (Int.tmod (w64 p20) (w64 ((x7190.length : Int) + 1)))))).length) c7855), (.slice none 0 0)] 82)], hf, rfl, hle, h7159, h7174, h7177, h7180, h7160, h8302, (hS.sel [1, 2, 0, 3] rfl)⟩ ⟨rfl, rfl, rfl, rfl, rfl, rfl, rfl, rfl, rfl, trivial⟩ ?_ ?_
        · rintro _ _ ⟨_, _, _, _, _, _, _, hf, _⟩
          exact absurd hf (by simp [bonsailaw19_RewriteTells.l2])
        rintro n _ w Y hY ⟨v8300, v8301, K8285, C8293, a8296, c8297, C8298, hf, rfl, hle, h8286, h8287, h8288, h8289, h8290, h8295, hS⟩
        rw [bonsailaw19_RewriteTells.l2] at hf
        refine s_seq (s_reg ?_)
        refine s_v rfl rfl rfl ?_
        refine s_nil (qn (s_seq ?_))
        refine s_if rfl (fun hc => ?_) (fun hc => ?_)
        · replace hf := bif_t hc hf
          refine s_skip (qn (s_seq (s_block (s_seq (s_reg ?_)))))
          obtain ⟨x8303, hx8304, hf⟩ := bs hf
          refine s_ixo 2 hS rfl h8295 hx8304 rfl rfl rfl rfl rfl rfl rfl ?_
          intro b8308 l8309 cs8312 l8310 hcs_ hC8313 hun8311
          obtain ⟨a8305, c8306, rfl, h8307⟩ := hcs_
          subst hC8313
          have hq8314 := KM.le.refl K8285
          refine s_ldm 2 0 hS rfl rfl rfl rfl rfl ?_
          refine s_v rfl rfl rfl ?_
          refine s_nil (qn (s_seq (s_reg ?_)))
          refine s_ld (v := (.agg (vv67 x7170 a7172 c7173 a7175 c7176 a7178 c7179).toArray)) 0 hS rfl rfl rfl rfl rfl ?_
          refine s_v rfl rfl rfl ?_
          obtain ⟨x8315, hx8316, hf⟩ := bs hf
          refine s_call isf33 hS.nilG (rewrite_Method_spec hx8316 h8287 h8288 h8289 h8307) rfl rfl rfl ?_
          rintro _ K8317 _ w hk8318 ⟨a8320, c8321, a8323, c8324, a8326, c8327, C8329, C8330, rfl, h8322, h8325, h8328, rfl⟩ hS
          replace hS := hS.open2
          iterate 3 refine s_v rfl rfl rfl ?_
          refine s_al hS rfl rfl rfl ?_
          intro b8333 w hS
          replace hS : Sat w K8317 (flat ([(b8333, Cl [(.string ByteArray.empty), (.slice none 0 0), (.int .i64 0), (.string ByteArray.empty), (.bool false), (.bool false), (.int .i64 0), (.slice none 0 0), (.slice none 0 0)] 67)] :: _)) := hS
          refine s_st (cs' := (vv67 x8315.1 a8320 c8321 a8323 c8324 a8326 c8327)) 0 hS rfl rfl rfl rfl rfl ?_
          intro w hS
          replace hS : Sat w _ (flat [_, _, _, _, _, _, _]) := hS
          refine s_v rfl rfl rfl ?_
          refine s_nil (qn (s_seq (s_reg ?_)))
          refine s_ld (v := (.agg (vv67 x7170 a7172 c7173 a7175 c7176 a7178 c7179).toArray)) 3 hS rfl rfl rfl rfl rfl ?_
          refine s_v rfl rfl rfl ?_
          obtain ⟨x8335, hx8336, hf⟩ := bs hf
          replace h8287 := h8287.mono hk8318
          replace h8288 := h8288.mono hk8318
          replace h8289 := h8289.mono hk8318
          replace h8307 := h8307.mono hk8318
          refine s_call isf34 hS.nilG (bonsairef18_Rewritten_spec hx8336 h8287 h8288 h8289 h8307) rfl rfl rfl ?_
          rintro _ K8337 C8339 w hk8338 ⟨a8340, c8341, a8343, c8344, a8346, c8347, rfl, h8342, h8345, h8348⟩ hS
          replace hS := hS.drop1
          iterate 3 refine s_v rfl rfl rfl ?_
          refine s_al hS rfl rfl rfl ?_
          intro b8349 w hS
          replace hS : Sat w K8337 (flat ([(b8349, Cl [(.string ByteArray.empty), (.slice none 0 0), (.int .i64 0), (.string ByteArray.empty), (.bool false), (.bool false), (.int .i64 0), (.slice none 0 0), (.slice none 0 0)] 67)] :: _)) := hS
          refine s_st (cs' := (vv67 x8335.1 a8340 c8341 a8343 c8344 a8346 c8347)) 0 hS rfl rfl rfl rfl rfl ?_
          intro w hS
          replace hS : Sat w _ (flat [_, _, _, _, _, _, _, _]) := hS
          refine s_v rfl rfl rfl ?_
          refine s_nil (qn ?_)
          obtain ⟨s8428, hst8429, hf⟩ := bs hf
          refine s_cut (fun τ w => ∃ (K8413 : KM) (C8421 : Chunks) (C8426 : Chunks), τ = [(3, (.slice a17 p16.length c18)), (4, (.int .u8 p20)), (17, (.pointer (some ⟨b7188, 0, none⟩))), (67, (.slice a7161 ([p1, x4436, (api_Method.mk ByteArray.empty [] (api_Type.mk 0 ByteArray.empty) true false 0 s142 [])].length) c7162)), (68, (.int .i64 3)), (69, (.int .i64 v7165)), (88, (.slice a8296 v8300.length c8297)), (89, (.int .i64 3)), (90, (.int .i64 v8301)), (139, (.bool s8428))] ∧ KM.le K K8413 ∧ SlK 121 K8413 a17 c18 p16 ∧ SlK 63 K8413 a7172 c7173 x7170.Params ∧ SlK 77 K8413 a7175 c7176 x7170.Code ∧ SlK 92 K8413 a7178 c7179 x7170.Handlers ∧ OwnS 67 K8413 (.slice a7161 ([p1, x4436, (api_Method.mk ByteArray.empty [] (api_Type.mk 0 ByteArray.empty) true false 0 s142 [])].length) c7162) [p1, x4436, (api_Method.mk ByteArray.empty [] (api_Type.mk 0 ByteArray.empty) true false 0 s142 [])] C8421 ∧ OwnS 82 K8413 (.slice a8296 v8300.length c8297) v8300 C8426 ∧ Sat w K8413 (flat [[(b7188, Cl (vv67 x7170 a7172 c7173 a7175 c7176 a7178 c7179) 67)], C8421, C8426, L])) (fun J hJ => ?_) ?_
          · replace hf := hst8429
            refine d_start [0, 1] [] hS ?_
            intro w hS
            refine d_v 0 (fun _ _ _ _ _ h => h) [0, 1] hS rfl rfl rfl (by kernel_rfl) rfl rfl ?_
            refine d_v 1 (fun _ _ _ _ _ h => h) [0, 1] hS rfl rfl rfl (by kernel_rfl) rfl rfl ?_
            refine d_v 2 (fun _ _ _ _ _ h => h) [0, 1] hS rfl rfl rfl (by kernel_rfl) rfl rfl ?_
            refine d_v 3 (fun _ _ _ _ _ h => h) [0, 1] hS rfl rfl rfl (by kernel_rfl) rfl rfl ?_
            cases hc : (!(x8315.2 == x8335.2))
            · replace hf := bif_f hc hf
              refine d_v 4 (fun _ _ _ _ _ h => h) [0, 1] hS rfl rfl rfl (by kernel_rfl) rfl rfl ?_
              refine d_v 5 (fun _ _ _ _ _ h => h) [0, 1] hS rfl rfl rfl (by kernel_rfl) rfl rfl ?_
              cases hc : x8315.2
              · replace hf := bif_f hc hf
                refine d_no 6 (fun _ _ _ _ _ h => h) [0, 1] hS rfl rfl (by kernel_rfl) rfl rfl ?_
                refine d_no 7 (fun _ _ _ _ _ h => h) [0, 1] hS rfl rfl (by kernel_rfl) rfl rfl ?_
                refine d_no 8 (fun _ _ _ _ _ h => h) [0, 1] hS rfl rfl (by kernel_rfl) rfl rfl ?_
                refine d_no 9 (fun _ _ _ _ _ h => h) [0, 1] hS rfl rfl (by kernel_rfl) rfl rfl ?_
                refine d_v 10 (fun _ _ _ _ _ h => h) [0, 1] hS rfl rfl rfl (by kernel_rfl) rfl rfl ?_
                refine d_v 11 (fun _ _ _ _ _ h => h) [0, 1] hS rfl rfl rfl (by kernel_rfl) rfl rfl ?_
                refine d_v 12 (fun _ _ _ _ _ h => h) [0, 1] hS rfl rfl rfl (by kernel_rfl) rfl rfl ?_
                refine d_v 13 (fun _ _ _ _ _ h => h) [0, 1] hS rfl rfl rfl (by kernel_rfl) rfl rfl ?_
                refine d_v 14 (fun _ _ _ _ _ h => h) [0, 1] hS rfl rfl rfl (by kernel_rfl) rfl rfl ?_
                refine d_v 15 (fun _ _ _ _ _ h => h) [0, 1] hS rfl rfl rfl (by kernel_rfl) rfl rfl ?_
                refine d_v 16 (fun _ _ _ _ _ h => h) [0, 1] hS rfl rfl rfl (by kernel_rfl) rfl rfl ?_
                refine d_ld 17 1 (fun _ _ _ _ _ h => h) [0, 1] hS rfl rfl rfl rfl rfl (by kernel_rfl) rfl rfl ?_
                refine d_v 18 (fun _ _ _ _ _ h => h) [0, 1] hS rfl rfl rfl (by kernel_rfl) rfl rfl ?_
                refine d_v 19 (fun _ _ _ _ _ h => h) [0, 1] hS rfl rfl rfl (by kernel_rfl) rfl rfl ?_
                refine d_v 20 (fun _ _ _ _ _ h => h) [0, 1] hS rfl rfl rfl (by kernel_rfl) rfl rfl ?_
                cases hc : ((x8315.1.Code.length : Int) != 0)
                · replace hf := bif_f hc hf
                  refine d_v 21 (fun _ _ _ _ _ h => h) [0, 1] hS rfl rfl rfl (by kernel_rfl) rfl rfl ?_
                  refine d_ld 22 1 (fun _ _ _ _ _ h => h) [0, 1] hS rfl rfl rfl rfl rfl (by kernel_rfl) rfl rfl ?_
                  refine d_v 23 (fun _ _ _ _ _ h => h) [0, 1] hS rfl rfl rfl (by kernel_rfl) rfl rfl ?_
                  refine d_v 24 (fun _ _ _ _ _ h => h) [0, 1] hS rfl rfl rfl (by kernel_rfl) rfl rfl ?_
                  refine d_v 25 (fun _ _ _ _ _ h => h) [0, 1] hS rfl rfl rfl (by kernel_rfl) rfl rfl ?_
                  refine d_v 26 (fun _ _ _ _ _ h => h) [0, 1] hS rfl rfl rfl (by kernel_rfl) rfl rfl ?_
                  refine d_v 27 (fun _ _ _ _ _ h => h) [0, 1] hS rfl rfl rfl (by kernel_rfl) rfl rfl ?_
                  cases hc : (!(x8315.1.Name.toList == (⟨#[]⟩ : ByteArray).toList))
                  · replace hf := bif_f hc hf
                    refine d_ld (v := (.agg (vv67 x8335.1 a8340 c8341 a8343 c8344 a8346 c8347).toArray)) 28 0 (fun _ _ _ _ _ h => h) [0, 1] hS rfl rfl rfl rfl rfl (by kernel_rfl) rfl rfl ?_
                    refine d_ld (v := (.agg (vv67 x8335.1 a8340 c8341 a8343 c8344 a8346 c8347).toArray)) 30 0 (fun _ _ _ _ _ h => h) [0, 1] hS rfl rfl rfl rfl rfl (by kernel_rfl) rfl rfl ?_
                    refine d_op 29 rfl (by kernel_rfl) (by kernel_rfl) (fun X hX => ?_)
                    have hlq := KM.le.refl K8337
                    obtain ⟨x8461, hx8462, hf⟩ := bs hf
                    refine s_call isf36 hS.nilG (rewrite_Fits_spec hx8462) rfl rfl rfl ?_
                    rintro _ K8463 C8465 w hk8464 rfl hS
                    replace hS := hS.drop1
                    replace hlq := hlq.trans hk8464
                    refine d_go [0, 1] [0, 1] [] [] hX hS hlq rfl rfl trivial ?_
                    refine d_op 31 rfl (by kernel_rfl) (by kernel_rfl) (fun X hX => ?_)
                    have hlq := KM.le.refl K8463
                    obtain ⟨x8466, hx8467, hf⟩ := bs hf
                    replace h8342 := h8342.mono hk8464
                    replace h8345 := h8345.mono hk8464
                    replace h8348 := h8348.mono hk8464
                    refine s_call isf37 hS.nilG (bonsairef18_Fits_spec hx8467 h8342 h8345 h8348) rfl rfl rfl ?_
                    rintro _ K8468 C8470 w hk8469 rfl hS
                    replace hS := hS.drop1
                    replace hlq := hlq.trans hk8469
                    refine d_go [0, 1] [0, 1] [] [] hX hS hlq rfl rfl trivial ?_
                    refine d_v 32 (fun _ _ _ _ _ h => h) [0, 1] hS rfl rfl rfl (by kernel_rfl) rfl rfl ?_
                    refine d_v 33 (fun _ _ _ _ _ h => h) [0, 1] hS rfl rfl rfl (by kernel_rfl) rfl rfl ?_
                    refine d_end (by kernel_rfl) ?_
                    refine qn ?_
                    have hq := Option.some.inj hf
                    subst hq
                    have hkk0 := ((hk8318.trans hk8338).trans hk8464).trans hk8469
                    replace h8286 := h8286.mono hkk0
                    replace h8290 := h8290.mono hkk0
                    replace h8295 := h8295.mono hkk0
                    replace hle := hle.trans hkk0
                    replace h8287 := h8287.mono ((hk8338.trans hk8464).trans hk8469)
                    replace h8288 := h8288.mono ((hk8338.trans hk8464).trans hk8469)
                    replace h8289 := h8289.mono ((hk8338.trans hk8464).trans hk8469)
                    refine s_join hJ _ ⟨K8468, C8293, [(b8308, Cl (l8309 ++ (([(.slice a8305 x8303.length c8306)] : List Value) ++ l8310)) 82)], rfl, hle, h8286, h8287, h8288, h8289, h8290, h8295, (hS.sel [4, 5, 6, 7] rfl)⟩ ⟨rfl, rfl, rfl, rfl, rfl, rfl, rfl, rfl, rfl, rfl, trivial⟩
                  replace hf := bif_t hc hf
                  refine d_no 28 (fun _ _ _ _ _ h => h) [0, 1] hS rfl rfl (by kernel_rfl) rfl rfl ?_
                  refine d_no 29 (fun _ _ _ _ _ h => h) [0, 1] hS rfl rfl (by kernel_rfl) rfl rfl ?_
                  refine d_no 30 (fun _ _ _ _ _ h => h) [0, 1] hS rfl rfl (by kernel_rfl) rfl rfl ?_
                  refine d_no 31 (fun _ _ _ _ _ h => h) [0, 1] hS rfl rfl (by kernel_rfl) rfl rfl ?_
                  refine d_no 32 (fun _ _ _ _ _ h => h) [0, 1] hS rfl rfl (by kernel_rfl) rfl rfl ?_
                  refine d_v 33 (fun _ _ _ _ _ h => h) [0, 1] hS rfl rfl rfl (by kernel_rfl) rfl rfl ?_
                  refine d_end (by kernel_rfl) ?_
                  refine qn ?_
                  have hq := Option.some.inj hf
                  subst hq
                  replace h8286 := h8286.mono (hk8318.trans hk8338)
                  replace h8290 := h8290.mono (hk8318.trans hk8338)
                  replace h8295 := h8295.mono (hk8318.trans hk8338)
                  replace hle := hle.trans (hk8318.trans hk8338)
                  replace h8287 := h8287.mono hk8338
                  replace h8288 := h8288.mono hk8338
                  replace h8289 := h8289.mono hk8338
                  refine s_join hJ _ ⟨K8337, C8293, [(b8308, Cl (l8309 ++ (([(.slice a8305 x8303.length c8306)] : List Value) ++ l8310)) 82)], rfl, hle, h8286, h8287, h8288, h8289, h8290, h8295, (hS.sel [4, 5, 6, 7] rfl)⟩ ⟨rfl, rfl, rfl, rfl, rfl, rfl, rfl, rfl, rfl, rfl, trivial⟩
                replace hf := bif_t hc hf
                refine d_no 21 (fun _ _ _ _ _ h => h) [0, 1] hS rfl rfl (by kernel_rfl) rfl rfl ?_
                refine d_no 22 (fun _ _ _ _ _ h => h) [0, 1] hS rfl rfl (by kernel_rfl) rfl rfl ?_
                refine d_no 23 (fun _ _ _ _ _ h => h) [0, 1] hS rfl rfl (by kernel_rfl) rfl rfl ?_
                refine d_v 24 (fun _ _ _ _ _ h => h) [0, 1] hS rfl rfl rfl (by kernel_rfl) rfl rfl ?_
                refine d_v 25 (fun _ _ _ _ _ h => h) [0, 1] hS rfl rfl rfl (by kernel_rfl) rfl rfl ?_
                refine d_v 26 (fun _ _ _ _ _ h => h) [0, 1] hS rfl rfl rfl (by kernel_rfl) rfl rfl ?_
                refine d_v 27 (fun _ _ _ _ _ h => h) [0, 1] hS rfl rfl rfl (by kernel_rfl) rfl rfl ?_
                refine d_no 28 (fun _ _ _ _ _ h => h) [0, 1] hS rfl rfl (by kernel_rfl) rfl rfl ?_
                refine d_no 29 (fun _ _ _ _ _ h => h) [0, 1] hS rfl rfl (by kernel_rfl) rfl rfl ?_
                refine d_no 30 (fun _ _ _ _ _ h => h) [0, 1] hS rfl rfl (by kernel_rfl) rfl rfl ?_
                refine d_no 31 (fun _ _ _ _ _ h => h) [0, 1] hS rfl rfl (by kernel_rfl) rfl rfl ?_
                refine d_no 32 (fun _ _ _ _ _ h => h) [0, 1] hS rfl rfl (by kernel_rfl) rfl rfl ?_
                refine d_v 33 (fun _ _ _ _ _ h => h) [0, 1] hS rfl rfl rfl (by kernel_rfl) rfl rfl ?_
                refine d_end (by kernel_rfl) ?_
                refine qn ?_
                have hq := Option.some.inj hf
                subst hq
                replace h8286 := h8286.mono (hk8318.trans hk8338)
                replace h8290 := h8290.mono (hk8318.trans hk8338)
                replace h8295 := h8295.mono (hk8318.trans hk8338)
                replace hle := hle.trans (hk8318.trans hk8338)
                replace h8287 := h8287.mono hk8338
                replace h8288 := h8288.mono hk8338
                replace h8289 := h8289.mono hk8338
                refine s_join hJ _ ⟨K8337, C8293, [(b8308, Cl (l8309 ++ (([(.slice a8305 x8303.length c8306)] : List Value) ++ l8310)) 82)], rfl, hle, h8286, h8287, h8288, h8289, h8290, h8295, (hS.sel [4, 5, 6, 7] rfl)⟩ ⟨rfl, rfl, rfl, rfl, rfl, rfl, rfl, rfl, rfl, rfl, trivial⟩
              replace hf := bif_t hc hf
              refine d_ld (v := (.agg (vv67 x8315.1 a8320 c8321 a8323 c8324 a8326 c8327).toArray)) 6 1 (fun _ _ _ _ _ h => h) [0, 1] hS rfl rfl rfl rfl rfl (by kernel_rfl) rfl rfl ?_
              refine d_ld (v := (.agg (vv67 x8335.1 a8340 c8341 a8343 c8344 a8346 c8347).toArray)) 7 0 (fun _ _ _ _ _ h => h) [0, 1] hS rfl rfl rfl rfl rfl (by kernel_rfl) rfl rfl ?_
              refine d_op 8 rfl (by kernel_rfl) (by kernel_rfl) (fun X hX => ?_)
              have hlq := KM.le.refl K8337
              replace h8325 := h8325.mono hk8338
              obtain ⟨K8471, hk8472, h8473, hS⟩ := h8325.freeze (hS.sel [2, 0, 1, 3, 4, 5, 6, 7] rfl)
              replace hS : Sat w _ (flat [_, _, _, _, _, _, _]) := hS
              replace h8328 := h8328.mono (hk8338.trans hk8472)
              obtain ⟨K8474, hk8475, h8476, hS⟩ := h8328.freeze (hS.sel [2, 0, 1, 3, 4, 5, 6] rfl)
              replace hS : Sat w _ (flat [_, _, _, _, _, _]) := hS
              obtain ⟨x8477, hx8478, hf⟩ := bs hf
              replace h8322 := h8322.mono ((hk8338.trans hk8472).trans hk8475)
              replace h8342 := h8342.mono (hk8472.trans hk8475)
              replace h8345 := h8345.mono (hk8472.trans hk8475)
              replace h8348 := h8348.mono (hk8472.trans hk8475)
              replace h8473 := h8473.mono hk8475
              refine s_call isf35 hS.nilG (bonsairef1_SameMethod_spec hx8478 h8322 h8473 h8476 h8342 h8345 h8348) rfl rfl rfl ?_
              rintro _ K8479 C8481 w hk8480 rfl hS
              replace hS := hS.drop1
              replace hlq := hlq.trans ((hk8472.trans hk8475).trans hk8480)
              refine d_go [0, 1] [0, 1] [] [] hX hS hlq rfl rfl trivial ?_
              refine d_v 9 (fun _ _ _ _ _ h => h) [0, 1] hS rfl rfl rfl (by kernel_rfl) rfl rfl ?_
              refine d_v 10 (fun _ _ _ _ _ h => h) [0, 1] hS rfl rfl rfl (by kernel_rfl) rfl rfl ?_
              refine d_v 11 (fun _ _ _ _ _ h => h) [0, 1] hS rfl rfl rfl (by kernel_rfl) rfl rfl ?_
              refine d_v 12 (fun _ _ _ _ _ h => h) [0, 1] hS rfl rfl rfl (by kernel_rfl) rfl rfl ?_
              have hkk1 := (((hk8318.trans hk8338).trans hk8472).trans hk8475).trans hk8480
              have hkk2 := ((hk8338.trans hk8472).trans hk8475).trans hk8480
              cases hc : (!x8477)
              · replace hf := bif_f hc hf
                refine d_v 13 (fun _ _ _ _ _ h => h) [0, 1] hS rfl rfl rfl (by kernel_rfl) rfl rfl ?_
                refine d_v 14 (fun _ _ _ _ _ h => h) [0, 1] hS rfl rfl rfl (by kernel_rfl) rfl rfl ?_
                refine d_v 15 (fun _ _ _ _ _ h => h) [0, 1] hS rfl rfl rfl (by kernel_rfl) rfl rfl ?_
                refine d_no 16 (fun _ _ _ _ _ h => h) [0, 1] hS rfl rfl (by kernel_rfl) rfl rfl ?_
                refine d_no 17 (fun _ _ _ _ _ h => h) [0, 1] hS rfl rfl (by kernel_rfl) rfl rfl ?_
                refine d_no 18 (fun _ _ _ _ _ h => h) [0, 1] hS rfl rfl (by kernel_rfl) rfl rfl ?_
                refine d_no 19 (fun _ _ _ _ _ h => h) [0, 1] hS rfl rfl (by kernel_rfl) rfl rfl ?_
                refine d_no 20 (fun _ _ _ _ _ h => h) [0, 1] hS rfl rfl (by kernel_rfl) rfl rfl ?_
                refine d_no 21 (fun _ _ _ _ _ h => h) [0, 1] hS rfl rfl (by kernel_rfl) rfl rfl ?_
                refine d_no 22 (fun _ _ _ _ _ h => h) [0, 1] hS rfl rfl (by kernel_rfl) rfl rfl ?_
                refine d_no 23 (fun _ _ _ _ _ h => h) [0, 1] hS rfl rfl (by kernel_rfl) rfl rfl ?_
                refine d_no 24 (fun _ _ _ _ _ h => h) [0, 1] hS rfl rfl (by kernel_rfl) rfl rfl ?_
                refine d_v 25 (fun _ _ _ _ _ h => h) [0, 1] hS rfl rfl rfl (by kernel_rfl) rfl rfl ?_
                refine d_v 26 (fun _ _ _ _ _ h => h) [0, 1] hS rfl rfl rfl (by kernel_rfl) rfl rfl ?_
                refine d_v 27 (fun _ _ _ _ _ h => h) [0, 1] hS rfl rfl rfl (by kernel_rfl) rfl rfl ?_
                refine d_ld (v := (.agg (vv67 x8335.1 a8340 c8341 a8343 c8344 a8346 c8347).toArray)) 28 0 (fun _ _ _ _ _ h => h) [0, 1] hS rfl rfl rfl rfl rfl (by kernel_rfl) rfl rfl ?_
                refine d_ld (v := (.agg (vv67 x8335.1 a8340 c8341 a8343 c8344 a8346 c8347).toArray)) 30 0 (fun _ _ _ _ _ h => h) [0, 1] hS rfl rfl rfl rfl rfl (by kernel_rfl) rfl rfl ?_
                refine d_op 29 rfl (by kernel_rfl) (by kernel_rfl) (fun X hX => ?_)
                have hlq := KM.le.refl K8479
                obtain ⟨x8482, hx8483, hf⟩ := bs hf
                refine s_call isf36 hS.nilG (rewrite_Fits_spec hx8483) rfl rfl rfl ?_
                rintro _ K8484 C8486 w hk8485 rfl hS
                replace hS := hS.drop1
                replace hlq := hlq.trans hk8485
                refine d_go [0, 1] [0, 1] [] [] hX hS hlq rfl rfl trivial ?_
                refine d_op 31 rfl (by kernel_rfl) (by kernel_rfl) (fun X hX => ?_)
                have hlq := KM.le.refl K8484
                obtain ⟨x8487, hx8488, hf⟩ := bs hf
                replace h8342 := h8342.mono (hk8480.trans hk8485)
                replace h8345 := h8345.mono (hk8480.trans hk8485)
                replace h8348 := h8348.mono (hk8480.trans hk8485)
                refine s_call isf37 hS.nilG (bonsairef18_Fits_spec hx8488 h8342 h8345 h8348) rfl rfl rfl ?_
                rintro _ K8489 C8491 w hk8490 rfl hS
                replace hS := hS.drop1
                replace hlq := hlq.trans hk8490
                refine d_go [0, 1] [0, 1] [] [] hX hS hlq rfl rfl trivial ?_
                refine d_v 32 (fun _ _ _ _ _ h => h) [0, 1] hS rfl rfl rfl (by kernel_rfl) rfl rfl ?_
                refine d_v 33 (fun _ _ _ _ _ h => h) [0, 1] hS rfl rfl rfl (by kernel_rfl) rfl rfl ?_
                refine d_end (by kernel_rfl) ?_
                refine qn ?_
                have hq := Option.some.inj hf
                subst hq
                replace h8286 := h8286.mono ((hkk1.trans hk8485).trans hk8490)
                replace h8290 := h8290.mono ((hkk1.trans hk8485).trans hk8490)
                replace h8295 := h8295.mono ((hkk1.trans hk8485).trans hk8490)
                replace hle := hle.trans ((hkk1.trans hk8485).trans hk8490)
                replace h8287 := h8287.mono ((hkk2.trans hk8485).trans hk8490)
                replace h8288 := h8288.mono ((hkk2.trans hk8485).trans hk8490)
                replace h8289 := h8289.mono ((hkk2.trans hk8485).trans hk8490)
                refine s_join hJ _ ⟨K8489, C8293, [(b8308, Cl (l8309 ++ (([(.slice a8305 x8303.length c8306)] : List Value) ++ l8310)) 82)], rfl, hle, h8286, h8287, h8288, h8289, h8290, h8295, (hS.sel [2, 3, 4, 5] rfl)⟩ ⟨rfl, rfl, rfl, rfl, rfl, rfl, rfl, rfl, rfl, rfl, trivial⟩
              replace hf := bif_t hc hf
              refine d_no 13 (fun _ _ _ _ _ h => h) [0, 1] hS rfl rfl (by kernel_rfl) rfl rfl ?_
              refine d_no 14 (fun _ _ _ _ _ h => h) [0, 1] hS rfl rfl (by kernel_rfl) rfl rfl ?_
              refine d_no 15 (fun _ _ _ _ _ h => h) [0, 1] hS rfl rfl (by kernel_rfl) rfl rfl ?_
              refine d_no 16 (fun _ _ _ _ _ h => h) [0, 1] hS rfl rfl (by kernel_rfl) rfl rfl ?_
              refine d_no 17 (fun _ _ _ _ _ h => h) [0, 1] hS rfl rfl (by kernel_rfl) rfl rfl ?_
              refine d_no 18 (fun _ _ _ _ _ h => h) [0, 1] hS rfl rfl (by kernel_rfl) rfl rfl ?_
              refine d_no 19 (fun _ _ _ _ _ h => h) [0, 1] hS rfl rfl (by kernel_rfl) rfl rfl ?_
              refine d_no 20 (fun _ _ _ _ _ h => h) [0, 1] hS rfl rfl (by kernel_rfl) rfl rfl ?_
              refine d_no 21 (fun _ _ _ _ _ h => h) [0, 1] hS rfl rfl (by kernel_rfl) rfl rfl ?_
              refine d_no 22 (fun _ _ _ _ _ h => h) [0, 1] hS rfl rfl (by kernel_rfl) rfl rfl ?_
              refine d_no 23 (fun _ _ _ _ _ h => h) [0, 1] hS rfl rfl (by kernel_rfl) rfl rfl ?_
              refine d_no 24 (fun _ _ _ _ _ h => h) [0, 1] hS rfl rfl (by kernel_rfl) rfl rfl ?_
              refine d_no 25 (fun _ _ _ _ _ h => h) [0, 1] hS rfl rfl (by kernel_rfl) rfl rfl ?_
              refine d_v 26 (fun _ _ _ _ _ h => h) [0, 1] hS rfl rfl rfl (by kernel_rfl) rfl rfl ?_
              refine d_v 27 (fun _ _ _ _ _ h => h) [0, 1] hS rfl rfl rfl (by kernel_rfl) rfl rfl ?_
              refine d_no 28 (fun _ _ _ _ _ h => h) [0, 1] hS rfl rfl (by kernel_rfl) rfl rfl ?_
              refine d_no 29 (fun _ _ _ _ _ h => h) [0, 1] hS rfl rfl (by kernel_rfl) rfl rfl ?_
              refine d_no 30 (fun _ _ _ _ _ h => h) [0, 1] hS rfl rfl (by kernel_rfl) rfl rfl ?_
              refine d_no 31 (fun _ _ _ _ _ h => h) [0, 1] hS rfl rfl (by kernel_rfl) rfl rfl ?_
              refine d_no 32 (fun _ _ _ _ _ h => h) [0, 1] hS rfl rfl (by kernel_rfl) rfl rfl ?_
              refine d_v 33 (fun _ _ _ _ _ h => h) [0, 1] hS rfl rfl rfl (by kernel_rfl) rfl rfl ?_
              refine d_end (by kernel_rfl) ?_
              refine qn ?_
              have hq := Option.some.inj hf
              subst hq
              replace h8286 := h8286.mono hkk1
              replace h8290 := h8290.mono hkk1
              replace h8295 := h8295.mono hkk1
              replace hle := hle.trans hkk1
              replace h8287 := h8287.mono hkk2
              replace h8288 := h8288.mono hkk2
              replace h8289 := h8289.mono hkk2
              refine s_join hJ _ ⟨K8479, C8293, [(b8308, Cl (l8309 ++ (([(.slice a8305 x8303.length c8306)] : List Value) ++ l8310)) 82)], rfl, hle, h8286, h8287, h8288, h8289, h8290, h8295, (hS.sel [2, 3, 4, 5] rfl)⟩ ⟨rfl, rfl, rfl, rfl, rfl, rfl, rfl, rfl, rfl, rfl, trivial⟩
            replace hf := bif_t hc hf
            refine d_no 4 (fun _ _ _ _ _ h => h) [0, 1] hS rfl rfl (by kernel_rfl) rfl rfl ?_
            refine d_no 5 (fun _ _ _ _ _ h => h) [0, 1] hS rfl rfl (by kernel_rfl) rfl rfl ?_
            refine d_no 6 (fun _ _ _ _ _ h => h) [0, 1] hS rfl rfl (by kernel_rfl) rfl rfl ?_
            refine d_no 7 (fun _ _ _ _ _ h => h) [0, 1] hS rfl rfl (by kernel_rfl) rfl rfl ?_
            refine d_no 8 (fun _ _ _ _ _ h => h) [0, 1] hS rfl rfl (by kernel_rfl) rfl rfl ?_
            refine d_no 9 (fun _ _ _ _ _ h => h) [0, 1] hS rfl rfl (by kernel_rfl) rfl rfl ?_
            refine d_no 10 (fun _ _ _ _ _ h => h) [0, 1] hS rfl rfl (by kernel_rfl) rfl rfl ?_
            refine d_v 11 (fun _ _ _ _ _ h => h) [0, 1] hS rfl rfl rfl (by kernel_rfl) rfl rfl ?_
            refine d_v 12 (fun _ _ _ _ _ h => h) [0, 1] hS rfl rfl rfl (by kernel_rfl) rfl rfl ?_
            refine d_no 13 (fun _ _ _ _ _ h => h) [0, 1] hS rfl rfl (by kernel_rfl) rfl rfl ?_
            refine d_no 14 (fun _ _ _ _ _ h => h) [0, 1] hS rfl rfl (by kernel_rfl) rfl rfl ?_
            refine d_no 15 (fun _ _ _ _ _ h => h) [0, 1] hS rfl rfl (by kernel_rfl) rfl rfl ?_
            refine d_no 16 (fun _ _ _ _ _ h => h) [0, 1] hS rfl rfl (by kernel_rfl) rfl rfl ?_
            refine d_no 17 (fun _ _ _ _ _ h => h) [0, 1] hS rfl rfl (by kernel_rfl) rfl rfl ?_
            refine d_no 18 (fun _ _ _ _ _ h => h) [0, 1] hS rfl rfl (by kernel_rfl) rfl rfl ?_
            refine d_no 19 (fun _ _ _ _ _ h => h) [0, 1] hS rfl rfl (by kernel_rfl) rfl rfl ?_
            refine d_no 20 (fun _ _ _ _ _ h => h) [0, 1] hS rfl rfl (by kernel_rfl) rfl rfl ?_
            refine d_no 21 (fun _ _ _ _ _ h => h) [0, 1] hS rfl rfl (by kernel_rfl) rfl rfl ?_
            refine d_no 22 (fun _ _ _ _ _ h => h) [0, 1] hS rfl rfl (by kernel_rfl) rfl rfl ?_
            refine d_no 23 (fun _ _ _ _ _ h => h) [0, 1] hS rfl rfl (by kernel_rfl) rfl rfl ?_
            refine d_no 24 (fun _ _ _ _ _ h => h) [0, 1] hS rfl rfl (by kernel_rfl) rfl rfl ?_
            refine d_no 25 (fun _ _ _ _ _ h => h) [0, 1] hS rfl rfl (by kernel_rfl) rfl rfl ?_
            refine d_v 26 (fun _ _ _ _ _ h => h) [0, 1] hS rfl rfl rfl (by kernel_rfl) rfl rfl ?_
            refine d_v 27 (fun _ _ _ _ _ h => h) [0, 1] hS rfl rfl rfl (by kernel_rfl) rfl rfl ?_
            refine d_no 28 (fun _ _ _ _ _ h => h) [0, 1] hS rfl rfl (by kernel_rfl) rfl rfl ?_
            refine d_no 29 (fun _ _ _ _ _ h => h) [0, 1] hS rfl rfl (by kernel_rfl) rfl rfl ?_
            refine d_no 30 (fun _ _ _ _ _ h => h) [0, 1] hS rfl rfl (by kernel_rfl) rfl rfl ?_
            refine d_no 31 (fun _ _ _ _ _ h => h) [0, 1] hS rfl rfl (by kernel_rfl) rfl rfl ?_
            refine d_no 32 (fun _ _ _ _ _ h => h) [0, 1] hS rfl rfl (by kernel_rfl) rfl rfl ?_
            refine d_v 33 (fun _ _ _ _ _ h => h) [0, 1] hS rfl rfl rfl (by kernel_rfl) rfl rfl ?_
            refine d_end (by kernel_rfl) ?_
            refine qn ?_
            have hq := Option.some.inj hf
            subst hq
            replace h8286 := h8286.mono (hk8318.trans hk8338)
            replace h8290 := h8290.mono (hk8318.trans hk8338)
            replace h8295 := h8295.mono (hk8318.trans hk8338)
            replace hle := hle.trans (hk8318.trans hk8338)
            replace h8287 := h8287.mono hk8338
            replace h8288 := h8288.mono hk8338
            replace h8289 := h8289.mono hk8338
            refine s_join hJ _ ⟨K8337, C8293, [(b8308, Cl (l8309 ++ (([(.slice a8305 x8303.length c8306)] : List Value) ++ l8310)) 82)], rfl, hle, h8286, h8287, h8288, h8289, h8290, h8295, (hS.sel [4, 5, 6, 7] rfl)⟩ ⟨rfl, rfl, rfl, rfl, rfl, rfl, rfl, rfl, rfl, rfl, trivial⟩
          rintro _ w ⟨K8413, C8421, C8426, rfl, hle, h8414, h8415, h8416, h8417, h8418, h8423, hS⟩
          refine s_if rfl (fun hc => ?_) (fun hc => ?_)
          · replace hf := bif_t hc hf
            refine s_seq (s_reg ?_)
            refine s_v rfl rfl rfl ?_
            refine s_nil (qn ?_)
            replace hS : Sat w K8413 (flat [_]) := (hS.sel [3] rfl)
            refine s_rets (qrb (qrt (qrt (qrb (qrt ?_)))))
            replace hf := LR.esc_some hf hm7851
            refine qrb (qrt (qrt (qrb (qrt ?_))))
            replace hf := LR.esc_some hf hm4363
            have hq := Option.some.inj hf
            subst hq
            refine s_ret1 rfl (rv_t rfl) ?_
            exact ⟨K8413, _, hle, rfl, Sat.nilG (hS.sel [0] rfl)⟩
          replace hf := bif_f hc hf
          refine s_skip (qbn (qn (s_reg ?_)))
          iterate 2 refine s_v rfl rfl rfl ?_
          refine s_nil (qn ?_)
          refine s_join hY _ ⟨v8300, w64 (v8301 + 1), K8413, C8421, a8296, c8297, C8426, hf, rfl, hle, h8414, h8415, h8416, h8417, h8418, h8423, hS⟩ ⟨rfl, rfl, rfl, rfl, rfl, rfl, rfl, rfl, rfl, trivial⟩
        replace hf := bif_f hc hf
        refine s_exit (qxt (qxt (qxb (qn ?_))))
        have hq := Option.some.inj hf
        subst hq
        refine s_join hJ _ ⟨(), K8285, C8293, rfl, rfl, hle, h8286, h8287, h8288, h8289, h8290, (hS.sel [0, 1, 3] rfl)⟩ ⟨rfl, rfl, rfl, rfl, rfl, rfl, trivial⟩
      rintro _ w ⟨s7848, K7838, C7846, rfl, rfl, hle, h7839, h7840, h7841, h7842, h7843, hS⟩
      replace hf := LR.elim_brk hm7851
      refine s_seq ?_
      refine d_start [0] [] hS ?_
      intro w hS
      refine d_ld (v := (.agg (vv67 x7170 a7172 c7173 a7175 c7176 a7178 c7179).toArray)) 0 0 (fun _ _ _ _ _ h => h) [0] hS rfl rfl rfl rfl rfl (by kernel_rfl) rfl rfl ?_
      refine d_ld (v := (.agg (vv67 x7170 a7172 c7173 a7175 c7176 a7178 c7179).toArray)) 2 0 (fun _ _ _ _ _ h => h) [0] hS rfl rfl rfl rfl rfl (by kernel_rfl) rfl rfl ?_
      refine d_op 1 rfl (by kernel_rfl) (by kernel_rfl) (fun X hX => ?_)
      have hlq := KM.le.refl K7838
      obtain ⟨x8502, hx8503, hf⟩ := bs hf
      refine s_call isf36 hS.nilG (rewrite_Fits_spec hx8503) rfl rfl rfl ?_
      rintro _ K8504 C8506 w hk8505 rfl hS
      replace hS := hS.drop1
      replace hlq := hlq.trans hk8505
      refine d_go [0] [0] [] [] hX hS hlq rfl rfl trivial ?_
      refine d_op 3 rfl (by kernel_rfl) (by kernel_rfl) (fun X hX => ?_)
      have hlq := KM.le.refl K8504
      obtain ⟨x8507, hx8508, hf⟩ := bs hf
      replace h7840 := h7840.mono hk8505
      replace h7841 := h7841.mono hk8505
      replace h7842 := h7842.mono hk8505
      refine s_call isf37 hS.nilG (bonsairef18_Fits_spec hx8508 h7840 h7841 h7842) rfl rfl rfl ?_
      rintro _ K8509 C8511 w hk8510 rfl hS
      replace hS := hS.drop1
      replace hlq := hlq.trans hk8510
      refine d_go [0] [0] [] [] hX hS hlq rfl rfl trivial ?_
      refine d_v 4 (fun _ _ _ _ _ h => h) [0] hS rfl rfl rfl (by kernel_rfl) rfl rfl ?_
      refine d_end (by kernel_rfl) ?_
      refine qn ?_
      replace hS : Sat w K8509 (flat [_, _]) := (hS.sel [1, 2] rfl)
      refine s_if rfl (fun hc => ?_) (fun hc => ?_)
      · replace hf := bif_t hc hf
        refine s_seq (s_reg ?_)
        refine s_v rfl rfl rfl ?_
        refine s_nil (qn ?_)
        replace hS : Sat w K8509 (flat [_]) := (hS.sel [1] rfl)
        refine s_rets (qrb (qrt (qrt (qrb (qrt ?_)))))
        replace hf := LR.esc_some hf hm4363
        have hq := Option.some.inj hf
        subst hq
        refine s_ret1 rfl (rv_t rfl) ?_
        replace hle := hle.trans (hk8505.trans hk8510)
        exact ⟨K8509, _, hle, rfl, Sat.nilG (hS.sel [0] rfl)⟩
      replace hf := bif_f hc hf
      refine s_skip (qbn (qn (s_reg ?_)))
      iterate 2 refine s_v rfl rfl rfl ?_
      refine s_nil (qn ?_)
      replace h7839 := h7839.mono (hk8505.trans hk8510)
      replace h7843 := h7843.mono (hk8505.trans hk8510)
      replace hle := hle.trans (hk8505.trans hk8510)
      refine s_join hY _ ⟨w64 (v7165 + 1), K8509, a7161, c7162, C7846, hf, rfl, hle, h7839, h7843, hS⟩ ⟨rfl, rfl, rfl, rfl, rfl, trivial⟩
    replace hf := bif_f hc hf
    refine s_exit (qxt (qxt (qxb (qn ?_))))
    have hq := Option.some.inj hf
    subst hq
    refine s_join hJ _ ⟨(), K7158, rfl, rfl, hle, (hS.sel [1] rfl)⟩ trivial
  rintro _ w ⟨s4360, K4359, rfl, rfl, hle, hS⟩
  replace hf := LR.elim_brk hm4363
  refine s_seq (s_reg ?_)
  refine s_v rfl rfl rfl ?_
  refine s_nil (qn (s_rets ?_))
  have hq := Option.some.inj hf
  subst hq
  refine s_ret1 rfl (rv_t rfl) ?_
  exact ⟨K4359, _, hle, rfl, Sat.nilG (hS.sel [0] rfl)⟩
end Go.Proofs.Ytgaldjnnfkdohaa
