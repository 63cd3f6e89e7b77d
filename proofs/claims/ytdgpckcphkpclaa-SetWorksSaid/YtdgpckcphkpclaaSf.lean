/- Functions of the program, and their walks: what each reckons, and that its code reckons it. -/
import Derived.Test.YtdgpckcphkpclaaSw
set_option linter.unusedVariables false
set_option linter.unusedSimpArgs false
set_option maxHeartbeats 0
set_option maxRecDepth 100000
namespace Go.Proofs.Ytdgpckcphkpclaa
open Go Go.Fw
noncomputable def bod11 : Code := Try.f11.body.getD .skip
theorem isf11 : IsFn Try.prog 11 Try.f11 bod11 := ⟨Try.func11, rfl, by decide⟩
noncomputable def bod14 : Code := Try.f14.body.getD .skip
theorem isf14 : IsFn Try.prog 14 Try.f14 bod14 := ⟨Try.func14, rfl, by decide⟩
noncomputable def bod21 : Code := Try.f21.body.getD .skip
theorem isf21 : IsFn Try.prog 21 Try.f21 bod21 := ⟨Try.func21, rfl, by decide⟩
noncomputable def bod33 : Code := Try.f33.body.getD .skip
theorem isf33 : IsFn Try.prog 33 Try.f33 bod33 := ⟨Try.func33, rfl, by decide⟩
noncomputable def bod17 : Code := Try.f17.body.getD .skip
theorem isf17 : IsFn Try.prog 17 Try.f17 bod17 := ⟨Try.func17, rfl, by decide⟩
noncomputable def bod19 : Code := Try.f19.body.getD .skip
theorem isf19 : IsFn Try.prog 19 Try.f19 bod19 := ⟨Try.func19, rfl, by decide⟩
-- 11 bonsai/bonsailaw7.has
def bonsailaw7_has.l0 (fu : Nat) (p1 : (List Int)) (p5 : Int) : Nat → Int → Option (LR Unit Bool)
  | 0, _ => none
  | k + 1, v56 => bif decide (v56 < (p1.length : Int)) then ((idx p1 v56).bind fun x57 => bif x57 == p5 then (LR.esc (some true)) else (bonsailaw7_has.l0 fu p1 p5 k (w64 (v56 + 1)))) else (some (.brk ()))
def bonsailaw7_has.fn (fu : Nat) (p1 : (List Int)) (p5 : Int) : Option Bool := LR.then (bonsailaw7_has.l0 fu p1 p5 fu 0) fun s33 => some false
theorem bonsailaw7_has_spec {K : KM} {fu : Nat} {p1 : (List Int)} {p5 : Int} {r : Bool} {a2 : Option Addr} {c3 : Nat} (hf : bonsailaw7_has.fn fu p1 p5 = some r) (h4 : SlK 3 K a2 c3 p1) : Sp Try.prog 11 [(.slice a2 p1.length c3), (.int .i64 p5)] K [] (fun K' C v => v = (.bool r)) := by
  unfold bonsailaw7_has.fn at hf
  refine spec_enter isf11 rfl ?_
  intro w L hS
  replace hS : Sat w K (flat [L]) := hS
  have hle := KM.le.refl K
  unfold bod11 Try.f11
  dsimp only [Option.getD_some, argSlots]
  refine s_seq (s_reg ?_)
  refine s_v rfl rfl rfl ?_
  refine s_nil (qn ?_)
  obtain ⟨res34, hst35, hm36⟩ := LR.then_some hf
  refine s_cut (fun τ w => ∃ (s33 : Unit) (K32 : KM), res34 = .brk s33 ∧ τ = [] ∧ KM.le K K32 ∧ Sat w K32 (flat [L])) (fun J hJ => ?_) ?_
  · replace hf := hst35
    refine s_seq (s_reg ?_)
    refine s_v rfl rfl rfl ?_
    refine s_nil (qn (s_block ?_))
    refine s_loopp (fun n τ w => ∃ (v56 : Int) (K54 : KM), bonsailaw7_has.l0 fu p1 p5 n v56 = some res34 ∧ τ = [(0, (.slice a2 p1.length c3)), (1, (.int .i64 p5)), (5, (.int .i64 v56))] ∧ KM.le K K54 ∧ SlK 3 K54 a2 c3 p1 ∧ Sat w K54 (flat [L])) _ ⟨0, K, hf, rfl, hle, h4, hS⟩ ⟨rfl, rfl, rfl, trivial⟩ ?_ ?_
    · rintro _ _ ⟨_, _, hf, _⟩
      exact absurd hf (by simp [bonsailaw7_has.l0])
    rintro n _ w Y hY ⟨v56, K54, hf, rfl, hle, h55, hS⟩
    rw [bonsailaw7_has.l0] at hf
    refine s_seq (s_seq (s_reg ?_))
    iterate 4 refine s_v rfl rfl rfl ?_
    refine s_nil (qn ?_)
    refine s_if rfl (fun hc => ?_) (fun hc => ?_)
    · replace hf := bif_t hc hf
      refine s_skip (qn (s_seq (s_block (s_seq (s_reg ?_)))))
      iterate 2 refine s_v rfl rfl rfl ?_
      obtain ⟨x57, hx58, hf⟩ := bs hf
      refine s_ixk h55 rfl hx58 rfl rfl rfl rfl rfl rfl rfl ?_
      rintro b59 o60 _ rfl h61
      refine s_ldk 0 hS h61 rfl rfl rfl rfl ?_
      iterate 2 refine s_v rfl rfl rfl ?_
      refine s_nil (qn ?_)
      refine s_if rfl (fun hc => ?_) (fun hc => ?_)
      · replace hf := bif_t hc hf
        refine s_seq (s_reg ?_)
        refine s_v rfl rfl rfl ?_
        refine s_nil (qn (s_rets (qrb (qrt (qrt (qrb (qrt ?_)))))))
        replace hf := LR.esc_some hf hm36
        have hq := Option.some.inj hf
        subst hq
        refine s_ret1 rfl (rv_t rfl) ?_
        exact ⟨K54, _, hle, rfl, Sat.nilG (hS.sel [0] rfl)⟩
      replace hf := bif_f hc hf
      refine s_skip (qbn (qn (s_reg ?_)))
      iterate 3 refine s_v rfl rfl rfl ?_
      refine s_nil (qn ?_)
      refine s_join hY _ ⟨w64 (v56 + 1), K54, hf, rfl, hle, h55, hS⟩ ⟨rfl, rfl, rfl, trivial⟩
    replace hf := bif_f hc hf
    refine s_exit (qxt (qxt (qxb (qn ?_))))
    have hq := Option.some.inj hf
    subst hq
    refine s_join hJ _ ⟨(), K54, rfl, rfl, hle, hS⟩ trivial
  rintro _ w ⟨s33, K32, rfl, rfl, hle, hS⟩
  replace hf := LR.elim_brk hm36
  refine s_seq (s_reg ?_)
  refine s_v rfl rfl rfl ?_
  refine s_nil (qn (s_rets ?_))
  have hq := Option.some.inj hf
  subst hq
  refine s_ret1 rfl (rv_t rfl) ?_
  exact ⟨K32, _, hle, rfl, Sat.nilG (hS.sel [0] rfl)⟩
-- 14 bonsai/bonsaihelp.Ints
def bonsaihelp_Ints.l0 (fu : Nat) (p1 : (List Int)) (p5 : (List Int)) : Nat → Int → Option (LR Unit Bool)
  | 0, _ => none
  | k + 1, v192 => bif decide (v192 < (p1.length : Int)) then ((idx p1 v192).bind fun x213 => (idx p5 v192).bind fun x218 => bif x213 != x218 then (LR.esc (some false)) else (bonsaihelp_Ints.l0 fu p1 p5 k (w64 (v192 + 1)))) else (some (.brk ()))
def bonsaihelp_Ints.fn (fu : Nat) (p1 : (List Int)) (p5 : (List Int)) : Option Bool := bif (p1.length : Int) != (p5.length : Int) then (some false) else (LR.then (bonsaihelp_Ints.l0 fu p1 p5 fu 0) fun s115 => some true)
theorem bonsaihelp_Ints_spec {K : KM} {fu : Nat} {p1 : (List Int)} {p5 : (List Int)} {r : Bool} {a2 : Option Addr} {c3 : Nat} {a6 : Option Addr} {c7 : Nat} (hf : bonsaihelp_Ints.fn fu p1 p5 = some r) (h4 : SlK 3 K a2 c3 p1) (h8 : SlK 3 K a6 c7 p5) : Sp Try.prog 14 [(.slice a2 p1.length c3), (.slice a6 p5.length c7)] K [] (fun K' C v => v = (.bool r)) := by
  unfold bonsaihelp_Ints.fn at hf
  refine spec_enter isf14 rfl ?_
  intro w L hS
  replace hS : Sat w K (flat [L]) := hS
  have hle := KM.le.refl K
  unfold bod14 Try.f14
  dsimp only [Option.getD_some, argSlots]
  refine s_seq (s_reg ?_)
  refine s_v rfl rfl rfl ?_
  refine s_nil (qn (s_seq (s_seq (s_reg ?_))))
  iterate 5 refine s_v rfl rfl rfl ?_
  refine s_nil (qn ?_)
  refine s_if rfl (fun hc => ?_) (fun hc => ?_)
  · replace hf := bif_t hc hf
    refine s_seq (s_reg ?_)
    refine s_v rfl rfl rfl ?_
    refine s_nil (qn (s_rets (qrt ?_)))
    have hq := Option.some.inj hf
    subst hq
    refine s_ret1 rfl (rv_t rfl) ?_
    exact ⟨K, _, hle, rfl, Sat.nilG (hS.sel [0] rfl)⟩
  replace hf := bif_f hc hf
  refine s_skip (qn ?_)
  obtain ⟨res116, hst117, hm118⟩ := LR.then_some hf
  refine s_cut (fun τ w => ∃ (s115 : Unit) (K114 : KM), res116 = .brk s115 ∧ τ = [] ∧ KM.le K K114 ∧ Sat w K114 (flat [L])) (fun J hJ => ?_) ?_
  · replace hf := hst117
    refine s_seq (s_reg ?_)
    refine s_v rfl rfl rfl ?_
    refine s_nil (qn (s_block ?_))
    refine s_loopp (fun n τ w => ∃ (v192 : Int) (K189 : KM), bonsaihelp_Ints.l0 fu p1 p5 n v192 = some res116 ∧ τ = [(0, (.slice a2 p1.length c3)), (1, (.slice a6 p5.length c7)), (5, (.int .i64 v192))] ∧ KM.le K K189 ∧ SlK 3 K189 a2 c3 p1 ∧ SlK 3 K189 a6 c7 p5 ∧ Sat w K189 (flat [L])) _ ⟨0, K, hf, rfl, hle, h4, h8, hS⟩ ⟨rfl, rfl, rfl, trivial⟩ ?_ ?_
    · rintro _ _ ⟨_, _, hf, _⟩
      exact absurd hf (by simp [bonsaihelp_Ints.l0])
    rintro n _ w Y hY ⟨v192, K189, hf, rfl, hle, h190, h191, hS⟩
    rw [bonsaihelp_Ints.l0] at hf
    refine s_seq (s_seq (s_reg ?_))
    iterate 4 refine s_v rfl rfl rfl ?_
    refine s_nil (qn ?_)
    refine s_if rfl (fun hc => ?_) (fun hc => ?_)
    · replace hf := bif_t hc hf
      refine s_skip (qn (s_seq (s_block (s_seq ?_))))
      refine d_start [] [] hS ?_
      intro w hS
      refine d_v 0 (fun _ _ _ _ _ h => h) [] hS rfl rfl rfl (by kernel_rfl) rfl rfl ?_
      refine d_v 1 (fun _ _ _ _ _ h => h) [] hS rfl rfl rfl (by kernel_rfl) rfl rfl ?_
      obtain ⟨x213, hx214, hf⟩ := bs hf
      refine d_ixk 2 (fun _ _ _ _ _ h => h) [] hS h190 rfl hx214 rfl rfl rfl rfl rfl rfl rfl (by kernel_rfl) rfl rfl ?_
      rintro b215 o216 _ rfl h217
      refine d_ldk 3 0 (fun _ _ _ _ _ h => h) [] hS h217 rfl rfl rfl rfl (by kernel_rfl) rfl rfl ?_
      refine d_v 4 (fun _ _ _ _ _ h => h) [] hS rfl rfl rfl (by kernel_rfl) rfl rfl ?_
      refine d_v 5 (fun _ _ _ _ _ h => h) [] hS rfl rfl rfl (by kernel_rfl) rfl rfl ?_
      obtain ⟨x218, hx219, hf⟩ := bs hf
      refine d_ixk 6 (fun _ _ _ _ _ h => h) [] hS h191 rfl hx219 rfl rfl rfl rfl rfl rfl rfl (by kernel_rfl) rfl rfl ?_
      rintro b220 o221 _ rfl h222
      refine d_ldk 7 0 (fun _ _ _ _ _ h => h) [] hS h222 rfl rfl rfl rfl (by kernel_rfl) rfl rfl ?_
      refine d_v 8 (fun _ _ _ _ _ h => h) [] hS rfl rfl rfl (by kernel_rfl) rfl rfl ?_
      refine d_end (by kernel_rfl) ?_
      refine qn ?_
      refine s_if rfl (fun hc => ?_) (fun hc => ?_)
      · replace hf := bif_t hc hf
        refine s_seq (s_reg ?_)
        refine s_v rfl rfl rfl ?_
        refine s_nil (qn (s_rets (qrb (qrt (qrt (qrb (qrt ?_)))))))
        replace hf := LR.esc_some hf hm118
        have hq := Option.some.inj hf
        subst hq
        refine s_ret1 rfl (rv_t rfl) ?_
        exact ⟨K189, _, hle, rfl, Sat.nilG (hS.sel [0] rfl)⟩
      replace hf := bif_f hc hf
      refine s_skip (qbn (qn (s_reg ?_)))
      iterate 3 refine s_v rfl rfl rfl ?_
      refine s_nil (qn ?_)
      refine s_join hY _ ⟨w64 (v192 + 1), K189, hf, rfl, hle, h190, h191, hS⟩ ⟨rfl, rfl, rfl, trivial⟩
    replace hf := bif_f hc hf
    refine s_exit (qxt (qxt (qxb (qn ?_))))
    have hq := Option.some.inj hf
    subst hq
    refine s_join hJ _ ⟨(), K189, rfl, rfl, hle, hS⟩ trivial
  rintro _ w ⟨s115, K114, rfl, rfl, hle, hS⟩
  replace hf := LR.elim_brk hm118
  refine s_seq (s_reg ?_)
  refine s_v rfl rfl rfl ?_
  refine s_nil (qn (s_rets ?_))
  have hq := Option.some.inj hf
  subst hq
  refine s_ret1 rfl (rv_t rfl) ?_
  exact ⟨K114, _, hle, rfl, Sat.nilG (hS.sel [0] rfl)⟩
-- 21 bonsai/bonsairef7.In
def bonsairef7_In.l0 (fu : Nat) (p1 : (List ByteArray)) (p5 : ByteArray) : Nat → Int → Option (LR Unit Bool)
  | 0, _ => none
  | k + 1, v56 => bif decide (v56 < (p1.length : Int)) then ((idx p1 v56).bind fun x57 => bif x57.toList == p5.toList then (LR.esc (some true)) else (bonsairef7_In.l0 fu p1 p5 k (w64 (v56 + 1)))) else (some (.brk ()))
def bonsairef7_In.fn (fu : Nat) (p1 : (List ByteArray)) (p5 : ByteArray) : Option Bool := LR.then (bonsairef7_In.l0 fu p1 p5 fu 0) fun s33 => some false
theorem bonsairef7_In_spec {K : KM} {fu : Nat} {p1 : (List ByteArray)} {p5 : ByteArray} {r : Bool} {a2 : Option Addr} {c3 : Nat} (hf : bonsairef7_In.fn fu p1 p5 = some r) (h4 : SlK 9 K a2 c3 p1) : Sp Try.prog 21 [(.slice a2 p1.length c3), (.string p5)] K [] (fun K' C v => v = (.bool r)) := by
  unfold bonsairef7_In.fn at hf
  refine spec_enter isf21 rfl ?_
  intro w L hS
  replace hS : Sat w K (flat [L]) := hS
  have hle := KM.le.refl K
  unfold bod21 Try.f21
  dsimp only [Option.getD_some, argSlots]
  refine s_seq (s_reg ?_)
  refine s_v rfl rfl rfl ?_
  refine s_nil (qn ?_)
  obtain ⟨res34, hst35, hm36⟩ := LR.then_some hf
  refine s_cut (fun τ w => ∃ (s33 : Unit) (K32 : KM), res34 = .brk s33 ∧ τ = [] ∧ KM.le K K32 ∧ Sat w K32 (flat [L])) (fun J hJ => ?_) ?_
  · replace hf := hst35
    refine s_seq (s_reg ?_)
    refine s_v rfl rfl rfl ?_
    refine s_nil (qn (s_block ?_))
    refine s_loopp (fun n τ w => ∃ (v56 : Int) (K54 : KM), bonsairef7_In.l0 fu p1 p5 n v56 = some res34 ∧ τ = [(0, (.slice a2 p1.length c3)), (1, (.string p5)), (5, (.int .i64 v56))] ∧ KM.le K K54 ∧ SlK 9 K54 a2 c3 p1 ∧ Sat w K54 (flat [L])) _ ⟨0, K, hf, rfl, hle, h4, hS⟩ ⟨rfl, rfl, rfl, trivial⟩ ?_ ?_
    · rintro _ _ ⟨_, _, hf, _⟩
      exact absurd hf (by simp [bonsairef7_In.l0])
    rintro n _ w Y hY ⟨v56, K54, hf, rfl, hle, h55, hS⟩
    rw [bonsairef7_In.l0] at hf
    refine s_seq (s_seq (s_reg ?_))
    iterate 4 refine s_v rfl rfl rfl ?_
    refine s_nil (qn ?_)
    refine s_if rfl (fun hc => ?_) (fun hc => ?_)
    · replace hf := bif_t hc hf
      refine s_skip (qn (s_seq (s_block (s_seq (s_reg ?_)))))
      iterate 2 refine s_v rfl rfl rfl ?_
      obtain ⟨x57, hx58, hf⟩ := bs hf
      refine s_ixk h55 rfl hx58 rfl rfl rfl rfl rfl rfl rfl ?_
      rintro b59 o60 _ rfl h61
      refine s_ldk 0 hS h61 rfl rfl rfl rfl ?_
      iterate 2 refine s_v rfl rfl rfl ?_
      refine s_nil (qn ?_)
      refine s_if rfl (fun hc => ?_) (fun hc => ?_)
      · replace hf := bif_t hc hf
        refine s_seq (s_reg ?_)
        refine s_v rfl rfl rfl ?_
        refine s_nil (qn (s_rets (qrb (qrt (qrt (qrb (qrt ?_)))))))
        replace hf := LR.esc_some hf hm36
        have hq := Option.some.inj hf
        subst hq
        refine s_ret1 rfl (rv_t rfl) ?_
        exact ⟨K54, _, hle, rfl, Sat.nilG (hS.sel [0] rfl)⟩
      replace hf := bif_f hc hf
      refine s_skip (qbn (qn (s_reg ?_)))
      iterate 3 refine s_v rfl rfl rfl ?_
      refine s_nil (qn ?_)
      refine s_join hY _ ⟨w64 (v56 + 1), K54, hf, rfl, hle, h55, hS⟩ ⟨rfl, rfl, rfl, trivial⟩
    replace hf := bif_f hc hf
    refine s_exit (qxt (qxt (qxb (qn ?_))))
    have hq := Option.some.inj hf
    subst hq
    refine s_join hJ _ ⟨(), K54, rfl, rfl, hle, hS⟩ trivial
  rintro _ w ⟨s33, K32, rfl, rfl, hle, hS⟩
  replace hf := LR.elim_brk hm36
  refine s_seq (s_reg ?_)
  refine s_v rfl rfl rfl ?_
  refine s_nil (qn (s_rets ?_))
  have hq := Option.some.inj hf
  subst hq
  refine s_ret1 rfl (rv_t rfl) ?_
  exact ⟨K32, _, hle, rfl, Sat.nilG (hS.sel [0] rfl)⟩
-- 33 bonsai/bonsairef1.Strings
def bonsairef1_Strings.l0 (fu : Nat) (p1 : (List ByteArray)) (p5 : (List ByteArray)) : Nat → Int → Option (LR Unit Bool)
  | 0, _ => none
  | k + 1, v192 => bif decide (v192 < (p1.length : Int)) then ((idx p1 v192).bind fun x213 => (idx p5 v192).bind fun x218 => bif !(x213.toList == x218.toList) then (LR.esc (some false)) else (bonsairef1_Strings.l0 fu p1 p5 k (w64 (v192 + 1)))) else (some (.brk ()))
def bonsairef1_Strings.fn (fu : Nat) (p1 : (List ByteArray)) (p5 : (List ByteArray)) : Option Bool := bif (p1.length : Int) != (p5.length : Int) then (some false) else (LR.then (bonsairef1_Strings.l0 fu p1 p5 fu 0) fun s115 => some true)
theorem bonsairef1_Strings_spec {K : KM} {fu : Nat} {p1 : (List ByteArray)} {p5 : (List ByteArray)} {r : Bool} {a2 : Option Addr} {c3 : Nat} {a6 : Option Addr} {c7 : Nat} (hf : bonsairef1_Strings.fn fu p1 p5 = some r) (h4 : SlK 9 K a2 c3 p1) (h8 : SlK 9 K a6 c7 p5) : Sp Try.prog 33 [(.slice a2 p1.length c3), (.slice a6 p5.length c7)] K [] (fun K' C v => v = (.bool r)) := by
  unfold bonsairef1_Strings.fn at hf
  refine spec_enter isf33 rfl ?_
  intro w L hS
  replace hS : Sat w K (flat [L]) := hS
  have hle := KM.le.refl K
  unfold bod33 Try.f33
  dsimp only [Option.getD_some, argSlots]
  refine s_seq (s_reg ?_)
  refine s_v rfl rfl rfl ?_
  refine s_nil (qn (s_seq (s_seq (s_reg ?_))))
  iterate 5 refine s_v rfl rfl rfl ?_
  refine s_nil (qn ?_)
  refine s_if rfl (fun hc => ?_) (fun hc => ?_)
  · replace hf := bif_t hc hf
    refine s_seq (s_reg ?_)
    refine s_v rfl rfl rfl ?_
    refine s_nil (qn (s_rets (qrt ?_)))
    have hq := Option.some.inj hf
    subst hq
    refine s_ret1 rfl (rv_t rfl) ?_
    exact ⟨K, _, hle, rfl, Sat.nilG (hS.sel [0] rfl)⟩
  replace hf := bif_f hc hf
  refine s_skip (qn ?_)
  obtain ⟨res116, hst117, hm118⟩ := LR.then_some hf
  refine s_cut (fun τ w => ∃ (s115 : Unit) (K114 : KM), res116 = .brk s115 ∧ τ = [] ∧ KM.le K K114 ∧ Sat w K114 (flat [L])) (fun J hJ => ?_) ?_
  · replace hf := hst117
    refine s_seq (s_reg ?_)
    refine s_v rfl rfl rfl ?_
    refine s_nil (qn (s_block ?_))
    refine s_loopp (fun n τ w => ∃ (v192 : Int) (K189 : KM), bonsairef1_Strings.l0 fu p1 p5 n v192 = some res116 ∧ τ = [(0, (.slice a2 p1.length c3)), (1, (.slice a6 p5.length c7)), (5, (.int .i64 v192))] ∧ KM.le K K189 ∧ SlK 9 K189 a2 c3 p1 ∧ SlK 9 K189 a6 c7 p5 ∧ Sat w K189 (flat [L])) _ ⟨0, K, hf, rfl, hle, h4, h8, hS⟩ ⟨rfl, rfl, rfl, trivial⟩ ?_ ?_
    · rintro _ _ ⟨_, _, hf, _⟩
      exact absurd hf (by simp [bonsairef1_Strings.l0])
    rintro n _ w Y hY ⟨v192, K189, hf, rfl, hle, h190, h191, hS⟩
    rw [bonsairef1_Strings.l0] at hf
    refine s_seq (s_seq (s_reg ?_))
    iterate 4 refine s_v rfl rfl rfl ?_
    refine s_nil (qn ?_)
    refine s_if rfl (fun hc => ?_) (fun hc => ?_)
    · replace hf := bif_t hc hf
      refine s_skip (qn (s_seq (s_block (s_seq ?_))))
      refine d_start [] [] hS ?_
      intro w hS
      refine d_v 0 (fun _ _ _ _ _ h => h) [] hS rfl rfl rfl (by kernel_rfl) rfl rfl ?_
      refine d_v 1 (fun _ _ _ _ _ h => h) [] hS rfl rfl rfl (by kernel_rfl) rfl rfl ?_
      obtain ⟨x213, hx214, hf⟩ := bs hf
      refine d_ixk 2 (fun _ _ _ _ _ h => h) [] hS h190 rfl hx214 rfl rfl rfl rfl rfl rfl rfl (by kernel_rfl) rfl rfl ?_
      rintro b215 o216 _ rfl h217
      refine d_ldk 3 0 (fun _ _ _ _ _ h => h) [] hS h217 rfl rfl rfl rfl (by kernel_rfl) rfl rfl ?_
      refine d_v 4 (fun _ _ _ _ _ h => h) [] hS rfl rfl rfl (by kernel_rfl) rfl rfl ?_
      refine d_v 5 (fun _ _ _ _ _ h => h) [] hS rfl rfl rfl (by kernel_rfl) rfl rfl ?_
      obtain ⟨x218, hx219, hf⟩ := bs hf
      refine d_ixk 6 (fun _ _ _ _ _ h => h) [] hS h191 rfl hx219 rfl rfl rfl rfl rfl rfl rfl (by kernel_rfl) rfl rfl ?_
      rintro b220 o221 _ rfl h222
      refine d_ldk 7 0 (fun _ _ _ _ _ h => h) [] hS h222 rfl rfl rfl rfl (by kernel_rfl) rfl rfl ?_
      refine d_v 8 (fun _ _ _ _ _ h => h) [] hS rfl rfl rfl (by kernel_rfl) rfl rfl ?_
      refine d_end (by kernel_rfl) ?_
      refine qn ?_
      refine s_if rfl (fun hc => ?_) (fun hc => ?_)
      · replace hf := bif_t hc hf
        refine s_seq (s_reg ?_)
        refine s_v rfl rfl rfl ?_
        refine s_nil (qn (s_rets (qrb (qrt (qrt (qrb (qrt ?_)))))))
        replace hf := LR.esc_some hf hm118
        have hq := Option.some.inj hf
        subst hq
        refine s_ret1 rfl (rv_t rfl) ?_
        exact ⟨K189, _, hle, rfl, Sat.nilG (hS.sel [0] rfl)⟩
      replace hf := bif_f hc hf
      refine s_skip (qbn (qn (s_reg ?_)))
      iterate 3 refine s_v rfl rfl rfl ?_
      refine s_nil (qn ?_)
      refine s_join hY _ ⟨w64 (v192 + 1), K189, hf, rfl, hle, h190, h191, hS⟩ ⟨rfl, rfl, rfl, trivial⟩
    replace hf := bif_f hc hf
    refine s_exit (qxt (qxt (qxb (qn ?_))))
    have hq := Option.some.inj hf
    subst hq
    refine s_join hJ _ ⟨(), K189, rfl, rfl, hle, hS⟩ trivial
  rintro _ w ⟨s115, K114, rfl, rfl, hle, hS⟩
  replace hf := LR.elim_brk hm118
  refine s_seq (s_reg ?_)
  refine s_v rfl rfl rfl ?_
  refine s_nil (qn (s_rets ?_))
  have hq := Option.some.inj hf
  subst hq
  refine s_ret1 rfl (rv_t rfl) ?_
  exact ⟨K114, _, hle, rfl, Sat.nilG (hS.sel [0] rfl)⟩
-- 17 bonsai/bonsaihelp.Strings
def bonsaihelp_Strings.fn (fu : Nat) (p1 : (List ByteArray)) (p5 : (List ByteArray)) : Option Bool := (bonsairef1_Strings.fn fu p1 p5).bind fun x10 => some x10
theorem bonsaihelp_Strings_spec {K : KM} {fu : Nat} {p1 : (List ByteArray)} {p5 : (List ByteArray)} {r : Bool} {a2 : Option Addr} {c3 : Nat} {a6 : Option Addr} {c7 : Nat} (hf : bonsaihelp_Strings.fn fu p1 p5 = some r) (h4 : SlK 9 K a2 c3 p1) (h8 : SlK 9 K a6 c7 p5) : Sp Try.prog 17 [(.slice a2 p1.length c3), (.slice a6 p5.length c7)] K [] (fun K' C v => v = (.bool r)) := by
  unfold bonsaihelp_Strings.fn at hf
  refine spec_enter isf17 rfl ?_
  intro w L hS
  replace hS : Sat w K (flat [L]) := hS
  have hle := KM.le.refl K
  unfold bod17 Try.f17
  dsimp only [Option.getD_some, argSlots]
  refine s_seq (s_reg ?_)
  refine s_v rfl rfl rfl ?_
  refine s_nil (qn (s_seq (s_reg ?_)))
  iterate 2 refine s_v rfl rfl rfl ?_
  obtain ⟨x10, hx11, hf⟩ := bs hf
  refine s_call isf33 hS.nilG (bonsairef1_Strings_spec hx11 h4 h8) rfl rfl rfl ?_
  rintro _ K12 C14 w hk13 rfl hS
  replace hS := hS.drop1
  refine s_v rfl rfl rfl ?_
  refine s_nil (qn (s_rets ?_))
  have hq := Option.some.inj hf
  subst hq
  refine s_ret1 rfl (rv_t rfl) ?_
  replace hle := hle.trans hk13
  exact ⟨K12, _, hle, rfl, Sat.nilG (hS.sel [0] rfl)⟩
-- 19 bonsai/bonsairef7.Sorted
def bonsairef7_Sorted.l1 (fu : Nat) (p1 : (List ByteArray)) (v9965 : (List ByteArray)) (v9966 : Int) : Nat → Int → Option Int
  | 0, _ => none
  | k + 1, v11482 => (bif decide (v11482 < (v9965.length : Int)) then ((idx v9965 v11482).bind fun x11562 => (idx p1 v9966).bind fun x11571 => some (Op.bytesLess x11562.toList x11571.toList)) else (some false)).bind fun s11532 => bif s11532 then (bonsairef7_Sorted.l1 fu p1 v9965 v9966 k (w64 (v11482 + 1))) else (some v11482)
def bonsairef7_Sorted.l0 (fu : Nat) (p1 : (List ByteArray)) : Nat → (List ByteArray) → Int → Option (List ByteArray)
  | 0, _, _ => none
  | k + 1, v9965, v9966 => bif decide (v9966 < (p1.length : Int)) then (((bonsairef7_Sorted.l1 fu p1 v9965 v9966 fu 0).bind fun s11265 => (bif s11265 == (v9965.length : Int) then (some true) else ((idx v9965 s11265).bind fun x11655 => (idx p1 v9966).bind fun x11664 => some (!(x11655.toList == x11664.toList)))).bind fun s11625 => bif s11625 then ((guardB (subOk v9965.length 0 s11265) ((idx p1 v9966).bind fun x11877 => guardB (subOk v9965.length s11265 (v9965.length : Int)) (guardB (roomy ([] : List ByteArray).length (subl v9965 0 s11265).length 16) (guardB (roomy (([] : List ByteArray) ++ (subl v9965 0 s11265)).length 1 16) (guardB (roomy ((([] : List ByteArray) ++ (subl v9965 0 s11265)) ++ ([x11877] : List ByteArray)).length (subl v9965 s11265 (v9965.length : Int)).length 16) (some (((([] : List ByteArray) ++ (subl v9965 0 s11265)) ++ ([x11877] : List ByteArray)) ++ (subl v9965 s11265 (v9965.length : Int))))))))).bind fun s11798 => some s11798) else (some v9965)).bind fun s10947 => bonsairef7_Sorted.l0 fu p1 k s10947 (w64 (v9966 + 1))) else (some v9965)
def bonsairef7_Sorted.fn (fu : Nat) (p1 : (List ByteArray)) : Option (List ByteArray) := (bonsairef7_Sorted.l0 fu p1 fu ([] : List ByteArray) 0).bind fun s6009 => some s6009
theorem bonsairef7_Sorted_spec {K : KM} {fu : Nat} {p1 : (List ByteArray)} {r : (List ByteArray)} {a2 : Option Addr} {c3 : Nat} (hf : bonsairef7_Sorted.fn fu p1 = some r) (h4 : SlK 9 K a2 c3 p1) : Sp Try.prog 19 [(.slice a2 p1.length c3)] K [] (fun K' C v => ∃ (a11925 : Option Addr) (c11926 : Nat), v = (.slice a11925 r.length c11926) ∧ SlK 9 K' a11925 c11926 r) := by
  unfold bonsairef7_Sorted.fn at hf
  refine spec_enter isf19 rfl ?_
  intro w L hS
  replace hS : Sat w K (flat [L]) := hS
  have hle := KM.le.refl K
  unfold bod19 Try.f19
  dsimp only [Option.getD_some, argSlots]
  refine s_seq (s_reg ?_)
  refine s_v rfl rfl rfl ?_
  refine s_nil (qn (s_seq (s_reg ?_)))
  refine s_v rfl rfl rfl ?_
  refine s_nil (qn ?_)
  obtain ⟨s6009, hst6010, hf⟩ := bs hf
  refine s_cut (fun τ w => ∃ (K6003 : KM) (a6005 : Option Addr) (c6006 : Nat) (C6007 : Chunks), τ = [(3, (.slice a6005 s6009.length c6006))] ∧ KM.le K K6003 ∧ OwnS 9 K6003 (.slice a6005 s6009.length c6006) s6009 C6007 ∧ Sat w K6003 (flat [C6007, L])) (fun J hJ => ?_) ?_
  · replace hf := hst6010
    refine s_seq (s_reg ?_)
    refine s_v rfl rfl rfl ?_
    refine s_nil (qn (s_block ?_))
    replace hS := hS.nilG
    refine s_loopp (fun n τ w => ∃ (v9965 : (List ByteArray)) (v9966 : Int) (K9958 : KM) (a9961 : Option Addr) (c9962 : Nat) (C9963 : Chunks), bonsairef7_Sorted.l0 fu p1 n v9965 v9966 = some s6009 ∧ τ = [(0, (.slice a2 p1.length c3)), (3, (.slice a9961 v9965.length c9962)), (4, (.int .i64 v9966))] ∧ KM.le K K9958 ∧ SlK 9 K9958 a2 c3 p1 ∧ OwnS 9 K9958 (.slice a9961 v9965.length c9962) v9965 C9963 ∧ Sat w K9958 (flat [C9963, L])) _ ⟨([] : List ByteArray), 0, K, none, 0, [], hf, rfl, hle, h4, OwnS.nil, hS⟩ ⟨rfl, rfl, rfl, trivial⟩ ?_ ?_
    · rintro _ _ ⟨_, _, _, _, _, _, hf, _⟩
      exact absurd hf (by simp [bonsairef7_Sorted.l0])
    rintro n _ w Y hY ⟨v9965, v9966, K9958, a9961, c9962, C9963, hf, rfl, hle, h9959, h9960, hS⟩
    rw [bonsairef7_Sorted.l0] at hf
    refine s_seq (s_seq (s_reg ?_))
    iterate 4 refine s_v rfl rfl rfl ?_
    refine s_nil (qn ?_)
    refine s_if rfl (fun hc => ?_) (fun hc => ?_)
    · replace hf := bif_t hc hf
      refine s_skip (qn ?_)
      obtain ⟨s10947, hst10948, hf⟩ := bs hf
      refine s_cut (fun τ w => ∃ (K10940 : KM) (a10943 : Option Addr) (c10944 : Nat) (C10945 : Chunks), τ = [(0, (.slice a2 p1.length c3)), (3, (.slice a10943 s10947.length c10944)), (4, (.int .i64 v9966))] ∧ KM.le K K10940 ∧ SlK 9 K10940 a2 c3 p1 ∧ OwnS 9 K10940 (.slice a10943 s10947.length c10944) s10947 C10945 ∧ Sat w K10940 (flat [C10945, L])) (fun J hJ => ?_) ?_
      · replace hf := hst10948
        refine s_block (s_seq (s_reg ?_))
        refine s_v rfl rfl rfl ?_
        refine s_nil (qn ?_)
        obtain ⟨s11265, hst11266, hf⟩ := bs hf
        refine s_cut (fun τ w => ∃ (K11258 : KM) (C11263 : Chunks), τ = [(0, (.slice a2 p1.length c3)), (3, (.slice a9961 v9965.length c9962)), (4, (.int .i64 v9966)), (5, (.int .i64 s11265))] ∧ KM.le K K11258 ∧ SlK 9 K11258 a2 c3 p1 ∧ OwnS 9 K11258 (.slice a9961 v9965.length c9962) v9965 C11263 ∧ Sat w K11258 (flat [C11263, L])) (fun J hJ => ?_) ?_
        · replace hf := hst11266
          refine s_block ?_
          refine s_loopp (fun n τ w => ∃ (v11482 : Int) (K11475 : KM) (C11480 : Chunks), bonsairef7_Sorted.l1 fu p1 v9965 v9966 n v11482 = some s11265 ∧ τ = [(0, (.slice a2 p1.length c3)), (3, (.slice a9961 v9965.length c9962)), (4, (.int .i64 v9966)), (5, (.int .i64 v11482))] ∧ KM.le K K11475 ∧ SlK 9 K11475 a2 c3 p1 ∧ OwnS 9 K11475 (.slice a9961 v9965.length c9962) v9965 C11480 ∧ Sat w K11475 (flat [C11480, L])) _ ⟨0, K9958, C9963, hf, rfl, hle, h9959, h9960, hS⟩ ⟨rfl, rfl, rfl, rfl, trivial⟩ ?_ ?_
          · rintro _ _ ⟨_, _, _, hf, _⟩
            exact absurd hf (by simp [bonsairef7_Sorted.l1])
          rintro n _ w Y hY ⟨v11482, K11475, C11480, hf, rfl, hle, h11476, h11477, hS⟩
          rw [bonsairef7_Sorted.l1] at hf
          refine s_seq ?_
          obtain ⟨s11532, hst11533, hf⟩ := bs hf
          refine s_cut (fun τ w => ∃ (K11525 : KM) (C11530 : Chunks), τ = [(0, (.slice a2 p1.length c3)), (3, (.slice a9961 v9965.length c9962)), (4, (.int .i64 v9966)), (5, (.int .i64 v11482)), (26, (.bool s11532))] ∧ KM.le K K11525 ∧ SlK 9 K11525 a2 c3 p1 ∧ OwnS 9 K11525 (.slice a9961 v9965.length c9962) v9965 C11530 ∧ Sat w K11525 (flat [C11530, L])) (fun J hJ => ?_) ?_
          · replace hf := hst11533
            refine d_start [0] [] hS ?_
            intro w hS
            refine d_v 0 (fun _ _ _ _ _ h => h) [0] hS rfl rfl rfl (by kernel_rfl) rfl rfl ?_
            refine d_v 1 (fun _ _ _ _ _ h => h) [0] hS rfl rfl rfl (by kernel_rfl) rfl rfl ?_
            refine d_v 2 (fun _ _ _ _ _ h => h) [0] hS rfl rfl rfl (by kernel_rfl) rfl rfl ?_
            refine d_v 3 (fun _ _ _ _ _ h => h) [0] hS rfl rfl rfl (by kernel_rfl) rfl rfl ?_
            refine d_v 4 (fun _ _ _ _ _ h => h) [0] hS rfl rfl rfl (by kernel_rfl) rfl rfl ?_
            cases hc : (decide (v11482 < (v9965.length : Int)))
            · replace hf := bif_f hc hf
              refine d_no 5 (fun _ _ _ _ _ h => h) [0] hS rfl rfl (by kernel_rfl) rfl rfl ?_
              refine d_no 6 (fun _ _ _ _ _ h => h) [0] hS rfl rfl (by kernel_rfl) rfl rfl ?_
              refine d_no 7 (fun _ _ _ _ _ h => h) [0] hS rfl rfl (by kernel_rfl) rfl rfl ?_
              refine d_no 8 (fun _ _ _ _ _ h => h) [0] hS rfl rfl (by kernel_rfl) rfl rfl ?_
              refine d_no 9 (fun _ _ _ _ _ h => h) [0] hS rfl rfl (by kernel_rfl) rfl rfl ?_
              refine d_no 10 (fun _ _ _ _ _ h => h) [0] hS rfl rfl (by kernel_rfl) rfl rfl ?_
              refine d_no 11 (fun _ _ _ _ _ h => h) [0] hS rfl rfl (by kernel_rfl) rfl rfl ?_
              refine d_no 12 (fun _ _ _ _ _ h => h) [0] hS rfl rfl (by kernel_rfl) rfl rfl ?_
              refine d_no 13 (fun _ _ _ _ _ h => h) [0] hS rfl rfl (by kernel_rfl) rfl rfl ?_
              refine d_v 14 (fun _ _ _ _ _ h => h) [0] hS rfl rfl rfl (by kernel_rfl) rfl rfl ?_
              refine d_end (by kernel_rfl) ?_
              refine qn ?_
              have hq := Option.some.inj hf
              subst hq
              refine s_join hJ _ ⟨K11475, C11480, rfl, hle, h11476, h11477, hS⟩ ⟨rfl, rfl, rfl, rfl, rfl, trivial⟩
            replace hf := bif_t hc hf
            refine d_v 5 (fun _ _ _ _ _ h => h) [0] hS rfl rfl rfl (by kernel_rfl) rfl rfl ?_
            refine d_v 6 (fun _ _ _ _ _ h => h) [0] hS rfl rfl rfl (by kernel_rfl) rfl rfl ?_
            obtain ⟨x11562, hx11563, hf⟩ := bs hf
            refine d_ixo 7 0 (fun _ _ _ _ _ h => h) [0] hS rfl h11477 hx11563 rfl rfl rfl rfl rfl rfl rfl (by kernel_rfl) rfl rfl ?_
            intro b11564 l11565 cs11568 l11566 hcs_ hC11569 hun11567
            obtain rfl := hcs_
            subst hC11569
            have hq11570 := KM.le.refl K11475
            refine d_ldm 8 0 0 (fun _ _ _ _ _ h => h) [0] hS rfl rfl rfl rfl rfl (by kernel_rfl) rfl rfl ?_
            refine d_v 9 (fun _ _ _ _ _ h => h) [0] hS rfl rfl rfl (by kernel_rfl) rfl rfl ?_
            refine d_v 10 (fun _ _ _ _ _ h => h) [0] hS rfl rfl rfl (by kernel_rfl) rfl rfl ?_
            obtain ⟨x11571, hx11572, hf⟩ := bs hf
            refine d_ixk 11 (fun _ _ _ _ _ h => h) [0] hS h11476 rfl hx11572 rfl rfl rfl rfl rfl rfl rfl (by kernel_rfl) rfl rfl ?_
            rintro b11573 o11574 _ rfl h11575
            refine d_ldk 12 0 (fun _ _ _ _ _ h => h) [0] hS h11575 rfl rfl rfl rfl (by kernel_rfl) rfl rfl ?_
            refine d_v 13 (fun _ _ _ _ _ h => h) [0] hS rfl rfl rfl (by kernel_rfl) rfl rfl ?_
            refine d_v 14 (fun _ _ _ _ _ h => h) [0] hS rfl rfl rfl (by kernel_rfl) rfl rfl ?_
            refine d_end (by kernel_rfl) ?_
            refine qn ?_
            have hq := Option.some.inj hf
            subst hq
            refine s_join hJ _ ⟨K11475, [(b11564, Cl (l11565 ++ (([(.string x11562)] : List Value) ++ l11566)) 9)], rfl, hle, h11476, h11477, hS⟩ ⟨rfl, rfl, rfl, rfl, rfl, trivial⟩
          rintro _ w ⟨K11525, C11530, rfl, hle, h11526, h11527, hS⟩
          refine s_if rfl (fun hc => ?_) (fun hc => ?_)
          · replace hf := bif_t hc hf
            refine s_skip (qn (s_block (s_reg ?_)))
            iterate 3 refine s_v rfl rfl rfl ?_
            refine s_nil (qbn (qn ?_))
            refine s_join hY _ ⟨w64 (v11482 + 1), K11525, C11530, hf, rfl, hle, h11526, h11527, hS⟩ ⟨rfl, rfl, rfl, rfl, trivial⟩
          replace hf := bif_f hc hf
          refine s_exit (qxt (qxt (qxb (qn ?_))))
          have hq := Option.some.inj hf
          subst hq
          refine s_join hJ _ ⟨K11525, C11530, rfl, hle, h11526, h11527, hS⟩ ⟨rfl, rfl, rfl, rfl, trivial⟩
        rintro _ w ⟨K11258, C11263, rfl, hle, h11259, h11260, hS⟩
        obtain ⟨s11625, hst11626, hf⟩ := bs hf
        refine s_cut (fun τ w => ∃ (K11618 : KM) (C11623 : Chunks), τ = [(0, (.slice a2 p1.length c3)), (3, (.slice a9961 v9965.length c9962)), (4, (.int .i64 v9966)), (5, (.int .i64 s11265)), (43, (.bool s11625))] ∧ KM.le K K11618 ∧ SlK 9 K11618 a2 c3 p1 ∧ OwnS 9 K11618 (.slice a9961 v9965.length c9962) v9965 C11623 ∧ Sat w K11618 (flat [C11623, L])) (fun J hJ => ?_) ?_
        · replace hf := hst11626
          refine d_start [0] [] hS ?_
          intro w hS
          refine d_v 0 (fun _ _ _ _ _ h => h) [0] hS rfl rfl rfl (by kernel_rfl) rfl rfl ?_
          refine d_v 1 (fun _ _ _ _ _ h => h) [0] hS rfl rfl rfl (by kernel_rfl) rfl rfl ?_
          refine d_v 2 (fun _ _ _ _ _ h => h) [0] hS rfl rfl rfl (by kernel_rfl) rfl rfl ?_
          refine d_v 3 (fun _ _ _ _ _ h => h) [0] hS rfl rfl rfl (by kernel_rfl) rfl rfl ?_
          refine d_v 4 (fun _ _ _ _ _ h => h) [0] hS rfl rfl rfl (by kernel_rfl) rfl rfl ?_
          cases hc : (s11265 == (v9965.length : Int))
          · replace hf := bif_f hc hf
            refine d_v 5 (fun _ _ _ _ _ h => h) [0] hS rfl rfl rfl (by kernel_rfl) rfl rfl ?_
            refine d_v 6 (fun _ _ _ _ _ h => h) [0] hS rfl rfl rfl (by kernel_rfl) rfl rfl ?_
            obtain ⟨x11655, hx11656, hf⟩ := bs hf
            refine d_ixo 7 0 (fun _ _ _ _ _ h => h) [0] hS rfl h11260 hx11656 rfl rfl rfl rfl rfl rfl rfl (by kernel_rfl) rfl rfl ?_
            intro b11657 l11658 cs11661 l11659 hcs_ hC11662 hun11660
            obtain rfl := hcs_
            subst hC11662
            have hq11663 := KM.le.refl K11258
            refine d_ldm 8 0 0 (fun _ _ _ _ _ h => h) [0] hS rfl rfl rfl rfl rfl (by kernel_rfl) rfl rfl ?_
            refine d_v 9 (fun _ _ _ _ _ h => h) [0] hS rfl rfl rfl (by kernel_rfl) rfl rfl ?_
            refine d_v 10 (fun _ _ _ _ _ h => h) [0] hS rfl rfl rfl (by kernel_rfl) rfl rfl ?_
            obtain ⟨x11664, hx11665, hf⟩ := bs hf
            refine d_ixk 11 (fun _ _ _ _ _ h => h) [0] hS h11259 rfl hx11665 rfl rfl rfl rfl rfl rfl rfl (by kernel_rfl) rfl rfl ?_
            rintro b11666 o11667 _ rfl h11668
            refine d_ldk 12 0 (fun _ _ _ _ _ h => h) [0] hS h11668 rfl rfl rfl rfl (by kernel_rfl) rfl rfl ?_
            refine d_v 13 (fun _ _ _ _ _ h => h) [0] hS rfl rfl rfl (by kernel_rfl) rfl rfl ?_
            refine d_v 14 (fun _ _ _ _ _ h => h) [0] hS rfl rfl rfl (by kernel_rfl) rfl rfl ?_
            refine d_end (by kernel_rfl) ?_
            refine qn ?_
            have hq := Option.some.inj hf
            subst hq
            refine s_join hJ _ ⟨K11258, [(b11657, Cl (l11658 ++ (([(.string x11655)] : List Value) ++ l11659)) 9)], rfl, hle, h11259, h11260, hS⟩ ⟨rfl, rfl, rfl, rfl, rfl, trivial⟩
          replace hf := bif_t hc hf
          refine d_no 5 (fun _ _ _ _ _ h => h) [0] hS rfl rfl (by kernel_rfl) rfl rfl ?_
          refine d_no 6 (fun _ _ _ _ _ h => h) [0] hS rfl rfl (by kernel_rfl) rfl rfl ?_
          refine d_no 7 (fun _ _ _ _ _ h => h) [0] hS rfl rfl (by kernel_rfl) rfl rfl ?_
          refine d_no 8 (fun _ _ _ _ _ h => h) [0] hS rfl rfl (by kernel_rfl) rfl rfl ?_
          refine d_no 9 (fun _ _ _ _ _ h => h) [0] hS rfl rfl (by kernel_rfl) rfl rfl ?_
          refine d_no 10 (fun _ _ _ _ _ h => h) [0] hS rfl rfl (by kernel_rfl) rfl rfl ?_
          refine d_no 11 (fun _ _ _ _ _ h => h) [0] hS rfl rfl (by kernel_rfl) rfl rfl ?_
          refine d_no 12 (fun _ _ _ _ _ h => h) [0] hS rfl rfl (by kernel_rfl) rfl rfl ?_
          refine d_no 13 (fun _ _ _ _ _ h => h) [0] hS rfl rfl (by kernel_rfl) rfl rfl ?_
          refine d_v 14 (fun _ _ _ _ _ h => h) [0] hS rfl rfl rfl (by kernel_rfl) rfl rfl ?_
          refine d_end (by kernel_rfl) ?_
          refine qn ?_
          have hq := Option.some.inj hf
          subst hq
          refine s_join hJ _ ⟨K11258, C11263, rfl, hle, h11259, h11260, hS⟩ ⟨rfl, rfl, rfl, rfl, rfl, trivial⟩
        rintro _ w ⟨K11618, C11623, rfl, hle, h11619, h11620, hS⟩
        refine s_if rfl (fun hc => ?_) (fun hc => ?_)
        · replace hf := bif_t hc hf
          obtain ⟨s11798, hst11799, hf⟩ := bs hf
          refine s_cut1 (fun τ w => ∃ (K11791 : KM) (a11794 : Option Addr) (c11795 : Nat) (C11796 : Chunks), τ = [(0, (.slice a2 p1.length c3)), (3, (.slice a11794 s11798.length c11795)), (4, (.int .i64 v9966))] ∧ KM.le K K11791 ∧ SlK 9 K11791 a2 c3 p1 ∧ OwnS 9 K11791 (.slice a11794 s11798.length c11795) s11798 C11796 ∧ Sat w K11791 (flat [C11796, L])) (fun J hJ => ?_) ?_
          · replace hf := hst11799
            obtain ⟨K11800, hk11801, h11802, hS⟩ := h11620.freeze (hS.sel [0, 1] rfl)
            replace hS : Sat w _ (flat [_]) := hS
            refine d_start [] [] hS ?_
            intro w hS
            refine d_v 0 (fun _ _ _ _ _ h => h) [] hS rfl rfl rfl (by kernel_rfl) rfl rfl ?_
            refine d_v 1 (fun _ _ _ _ _ h => h) [] hS rfl rfl rfl (by kernel_rfl) rfl rfl ?_
            obtain ⟨hm11873, hf⟩ := gs hf
            refine d_sl (zl := 0) (zh := s11265) 2 (fun _ _ _ _ _ h => h) [] hS h11802 rfl hm11873 rfl rfl rfl rfl rfl rfl ⟨_, rfl⟩ rfl (by kernel_rfl) rfl rfl ?_
            intro a11874 c11875 h11876
            refine d_v 4 (fun _ _ _ _ _ h => h) [] hS rfl rfl rfl (by kernel_rfl) rfl rfl ?_
            refine d_v 5 (fun _ _ _ _ _ h => h) [] hS rfl rfl rfl (by kernel_rfl) rfl rfl ?_
            obtain ⟨x11877, hx11878, hf⟩ := bs hf
            replace h11619 := h11619.mono hk11801
            refine d_ixk 6 (fun _ _ _ _ _ h => h) [] hS h11619 rfl hx11878 rfl rfl rfl rfl rfl rfl rfl (by kernel_rfl) rfl rfl ?_
            rintro b11879 o11880 _ rfl h11881
            refine d_ldk 7 0 (fun _ _ _ _ _ h => h) [] hS h11881 rfl rfl rfl rfl (by kernel_rfl) rfl rfl ?_
            refine d_v 10 (fun _ _ _ _ _ h => h) [] hS rfl rfl rfl (by kernel_rfl) rfl rfl ?_
            refine d_v 11 (fun _ _ _ _ _ h => h) [] hS rfl rfl rfl (by kernel_rfl) rfl rfl ?_
            obtain ⟨hm11882, hf⟩ := gs hf
            refine d_sl (zl := s11265) (zh := (v9965.length : Int)) 12 (fun _ _ _ _ _ h => h) [] hS h11802 rfl hm11882 rfl rfl rfl rfl rfl ⟨_, rfl⟩ rfl rfl (by kernel_rfl) rfl rfl ?_
            intro a11883 c11884 h11885
            refine d_ops [3, 8] (by kernel_rfl) rfl (.cons ⟨rfl, (by kernel_rfl), fun X hX => ?_⟩ (.cons ⟨rfl, (by kernel_rfl), fun X hX => ?_⟩ AllB.nil))
            · have hlq := KM.le.refl K11800
              replace hS := hS.nilG
              obtain ⟨hm11887, hf⟩ := gs hf
              refine s_appk (e := 9) 0 hS rfl OwnS.nil h11876 rfl rfl rfl rfl rfl rfl rfl (roomy_le hm11887) rfl rfl rfl ?_
              intro a11888 c11889 w C11890 h11891 hS
              replace hS : Sat w _ (flat [_, _]) := hS
              refine d_go [] [] [] [] hX hS hlq rfl rfl trivial ?_
              refine d_op 8 rfl (by kernel_rfl) (by kernel_rfl) (fun X hX => ?_)
              have hlq := KM.le.refl K11800
              refine s_bwc (cs := [(.string x11877)]) hS rfl rfl rfl rfl rfl rfl rfl rfl rfl rfl ?_
              intro b11892 w hS
              refine d_go [] [] [] [] hX hS hlq rfl rfl trivial ?_
              refine d_op 9 rfl (by kernel_rfl) (by kernel_rfl) (fun X hX => ?_)
              have hlq := KM.le.refl K11800
              obtain ⟨hm11894, hf⟩ := gs hf
              refine s_appv (e := 9) (ys := ([x11877] : List ByteArray)) 1 0 hS rfl h11891 rfl ⟨[(.string x11877)], _, rfl, rfl, rfl⟩ rfl rfl rfl rfl rfl rfl rfl rfl (roomy_le hm11894) rfl rfl rfl ?_
              intro a11895 c11896 w C11897 h11898 hS
              replace hS : Sat w _ (flat [_, _, _]) := hS
              refine d_go [] [] [] [] hX hS hlq rfl rfl trivial ?_
              refine d_op 13 rfl (by kernel_rfl) (by kernel_rfl) (fun X hX => ?_)
              have hlq := KM.le.refl K11800
              obtain ⟨hm11899, hf⟩ := gs hf
              refine s_appk (e := 9) 1 hS rfl h11898 h11885 rfl rfl rfl rfl rfl rfl rfl (roomy_le hm11899) rfl rfl rfl ?_
              intro a11900 c11901 w C11902 h11903 hS
              replace hS : Sat w _ (flat [_, _, _]) := hS
              refine d_go [] [] [] [] hX hS hlq rfl rfl trivial ?_
              refine d_v 14 (fun _ _ _ _ _ h => h) [] hS rfl rfl rfl (by kernel_rfl) rfl rfl ?_
              refine d_end (by kernel_rfl) ?_
              refine qn ?_
              have hq := Option.some.inj hf
              subst hq
              replace hle := hle.trans hk11801
              refine s_join hJ _ ⟨K11800, a11900, c11901, C11902, rfl, hle, h11619, h11903, (hS.sel [1, 2] rfl)⟩ ⟨rfl, rfl, rfl, trivial⟩
            obtain ⟨hm11887, hf⟩ := gs hf
            obtain ⟨hm11894, hf⟩ := gs hf
            obtain ⟨hm11899, hf⟩ := gs hf
            replace hf : (guardB (roomy ([] : List ByteArray).length (subl v9965 0 s11265).length 16) (guardB (roomy (([] : List ByteArray) ++ (subl v9965 0 s11265)).length 1 16) (guardB (roomy ((([] : List ByteArray) ++ (subl v9965 0 s11265)) ++ ([x11877] : List ByteArray)).length (subl v9965 s11265 (v9965.length : Int)).length 16) (some (((([] : List ByteArray) ++ (subl v9965 0 s11265)) ++ ([x11877] : List ByteArray)) ++ (subl v9965 s11265 (v9965.length : Int))))))) = _ := Eq.trans (by simp only [hm11887, hm11894, hm11899, guardB, cond_true, Option.bind_some]) hf
            have hlq := KM.le.refl K11800
            refine s_bwc (cs := [(.string x11877)]) hS rfl rfl rfl rfl rfl rfl rfl rfl rfl rfl ?_
            intro b11904 w hS
            refine d_go [] [] [] [] hX hS hlq rfl rfl trivial ?_
            refine d_op 3 rfl (by kernel_rfl) (by kernel_rfl) (fun X hX => ?_)
            have hlq := KM.le.refl K11800
            replace hS := hS.nilG
            obtain ⟨hm11907, hf⟩ := gs hf
            refine s_appk (e := 9) 0 hS rfl OwnS.nil h11876 rfl rfl rfl rfl rfl rfl rfl (roomy_le hm11907) rfl rfl rfl ?_
            intro a11908 c11909 w C11910 h11911 hS
            replace hS : Sat w _ (flat [_, _, _]) := hS
            refine d_go [] [] [] [] hX hS hlq rfl rfl trivial ?_
            refine d_op 9 rfl (by kernel_rfl) (by kernel_rfl) (fun X hX => ?_)
            have hlq := KM.le.refl K11800
            obtain ⟨hm11912, hf⟩ := gs hf
            refine s_appv (e := 9) (ys := ([x11877] : List ByteArray)) 0 1 hS rfl h11911 rfl ⟨[(.string x11877)], _, rfl, rfl, rfl⟩ rfl rfl rfl rfl rfl rfl rfl rfl (roomy_le hm11912) rfl rfl rfl ?_
            intro a11913 c11914 w C11915 h11916 hS
            replace hS : Sat w _ (flat [_, _, _]) := hS
            refine d_go [] [] [] [] hX hS hlq rfl rfl trivial ?_
            refine d_op 13 rfl (by kernel_rfl) (by kernel_rfl) (fun X hX => ?_)
            have hlq := KM.le.refl K11800
            obtain ⟨hm11917, hf⟩ := gs hf
            refine s_appk (e := 9) 0 hS rfl h11916 h11885 rfl rfl rfl rfl rfl rfl rfl (roomy_le hm11917) rfl rfl rfl ?_
            intro a11918 c11919 w C11920 h11921 hS
            replace hS : Sat w _ (flat [_, _, _]) := hS
            refine d_go [] [] [] [] hX hS hlq rfl rfl trivial ?_
            refine d_v 14 (fun _ _ _ _ _ h => h) [] hS rfl rfl rfl (by kernel_rfl) rfl rfl ?_
            refine d_end (by kernel_rfl) ?_
            refine qn ?_
            have hq := Option.some.inj hf
            subst hq
            replace hle := hle.trans hk11801
            refine s_join hJ _ ⟨K11800, a11918, c11919, C11920, rfl, hle, h11619, h11921, (hS.sel [0, 2] rfl)⟩ ⟨rfl, rfl, rfl, trivial⟩
          rintro _ w ⟨K11791, a11794, c11795, C11796, rfl, hle, h11792, h11793, hS⟩
          refine qbn (qn ?_)
          have hq := Option.some.inj hf
          subst hq
          refine s_join hJ _ ⟨K11791, a11794, c11795, C11796, rfl, hle, h11792, h11793, hS⟩ ⟨rfl, rfl, rfl, trivial⟩
        replace hf := bif_f hc hf
        refine s_skip (qbn (qn ?_))
        have hq := Option.some.inj hf
        subst hq
        refine s_join hJ _ ⟨K11618, a9961, c9962, C11623, rfl, hle, h11619, h11620, hS⟩ ⟨rfl, rfl, rfl, trivial⟩
      rintro _ w ⟨K10940, a10943, c10944, C10945, rfl, hle, h10941, h10942, hS⟩
      refine s_reg ?_
      iterate 3 refine s_v rfl rfl rfl ?_
      refine s_nil (qn ?_)
      refine s_join hY _ ⟨s10947, w64 (v9966 + 1), K10940, a10943, c10944, C10945, hf, rfl, hle, h10941, h10942, hS⟩ ⟨rfl, rfl, rfl, trivial⟩
    replace hf := bif_f hc hf
    refine s_exit (qxt (qxt (qxb (qn ?_))))
    have hq := Option.some.inj hf
    subst hq
    refine s_join hJ _ ⟨K9958, a9961, c9962, C9963, rfl, hle, h9960, hS⟩ ⟨rfl, trivial⟩
  rintro _ w ⟨K6003, a6005, c6006, C6007, rfl, hle, h6004, hS⟩
  refine s_seq (s_reg ?_)
  iterate 2 refine s_v rfl rfl rfl ?_
  refine s_nil (qn (s_rets ?_))
  obtain ⟨K11922, hk11923, h11924, hS⟩ := h6004.freeze (hS.sel [0, 1] rfl)
  replace hS : Sat w _ (flat [_]) := hS
  have hq := Option.some.inj hf
  subst hq
  refine s_ret1 rfl (rv_t rfl) ?_
  replace hle := hle.trans hk11923
  exact ⟨K11922, _, hle, ⟨a6005, c6006, rfl, h11924⟩, Sat.nilG (hS.sel [0] rfl)⟩
end Go.Proofs.Ytdgpckcphkpclaa
