/- Sets of int: what their methods reckon, and that their code reckons it. -/
import Derived.Test.YtdgpckcphkpclaaSty
set_option linter.unusedVariables false
set_option linter.unusedSimpArgs false
set_option maxHeartbeats 0
set_option maxRecDepth 100000
namespace Go.Proofs.Ytdgpckcphkpclaa
open Go Go.Fw
noncomputable def bod13 : Code := Try.f13.body.getD .skip
theorem isf13 : IsFn Try.prog 13 Try.f13 bod13 := ⟨Try.func13, rfl, by decide⟩
noncomputable def bod12 : Code := Try.f12.body.getD .skip
theorem isf12 : IsFn Try.prog 12 Try.f12 bod12 := ⟨Try.func12, rfl, by decide⟩
noncomputable def bod16 : Code := Try.f16.body.getD .skip
theorem isf16 : IsFn Try.prog 16 Try.f16 bod16 := ⟨Try.func16, rfl, by decide⟩
theorem zero4_int (w : World) : (zeroValue 4).run Try.prog w = .ok (.bool false) w := by kernel_rfl

/-- what a look into a set tells -/
theorem find_int (s : List Int) (x : Int) : ∃ a, Instr.findNow (Scal.dk Int) (Value.int .i64 x) (entsFrom 0 s).toArray.toList 0 = some a ∧ lkOr a (.bool false) = .bool (decide (x ∈ s)) ∧ (x ∉ s → a = none) := by
  have h := ents_find s x 0 0
  by_cases hx : x ∈ s
  · obtain ⟨j, hj⟩ := h.1 hx
    exact ⟨_, hj, by simp [hx, lkOr], fun h => absurd hx h⟩
  · exact ⟨_, h.2 hx, by simp [hx, lkOr], fun _ => rfl⟩

def set_Set_int_Add.fn (p1 : List Int) (p2 : Int) : Option (Bool × List Int) := bif decide (p2 ∈ p1) then some (false, p1) else guardB (Nat.blt p1.length maxLen) (some (true, p1 ++ [p2]))
theorem set_Set_int_Add_spec {K : KM} {p1 : List Int} {p2 : Int} {r : Bool × List Int} {b : Nat} {C : Chunks} (hf : set_Set_int_Add.fn p1 p2 = some r) (h : SetO 62 K b p1 C) :
    Sp Try.prog 13 [.pointer (some ⟨b, 0, none⟩), Value.int .i64 p2] K (flat [C]) (fun K' C' v => v = .bool r.1 ∧ SetO 62 K' b r.2 C') := by
  unfold set_Set_int_Add.fn at hf
  obtain ⟨hn, hl, r0, rfl⟩ := h
  obtain ⟨a, hfind, hval, hnone⟩ := find_int p1 p2
  refine spec_enter isf13 rfl ?_
  intro w L hS
  replace hS : Sat w K (flat [[(b, Cl [.map (some r0)] 62)], [(r0, .map (entsFrom 0 p1).toArray p1.length)], L]) := hS.open.open2
  unfold bod13 Try.f13
  dsimp only [Option.getD_some, argSlots]
  refine s_seq (s_reg ?_)
  refine s_v rfl rfl rfl ?_
  refine s_nil (qn (s_seq (s_seq (s_reg ?_))))
  iterate 3 refine s_v rfl rfl rfl ?_
  refine s_ld (v := .map (some r0)) 0 hS rfl rfl rfl rfl rfl ?_
  refine s_v rfl rfl rfl ?_
  refine s_lku (a := a) 1 hS rfl rfl rfl Try.underlying60 Try.underlying3 (Scal.key p2) hfind (zero4_int w) rfl rfl ?_
  rw [hval]
  refine s_nil (qn ?_)
  refine s_if rfl (fun hc => ?_) (fun hc => ?_)
  · rw [hc] at hf
    refine s_seq (s_reg ?_)
    refine s_v rfl rfl rfl ?_
    refine s_nil (qn (s_rets (qrt ?_)))
    have hq := Option.some.inj hf
    subst hq
    refine s_ret1 rfl (rv_t rfl) ?_
    exact ⟨K, _, KM.le.refl K, ⟨rfl, hn, hl, r0, rfl⟩, hS.shut2⟩
  · have hx : p2 ∉ p1 := by simpa using hc
    rw [hc] at hf
    obtain ⟨hm, hf⟩ := gs hf
    have hm' : p1.length < maxLen := by simpa using hm
    have := hnone hx; subst this
    refine s_skip (qn (s_seq (s_reg ?_)))
    iterate 3 refine s_v rfl rfl rfl ?_
    refine s_ld (v := .map (some r0)) 0 hS rfl rfl rfl rfl rfl ?_
    refine s_v rfl rfl rfl ?_
    refine s_mup 1 hS rfl rfl rfl rfl Try.underlying60 Try.underlying3 (Scal.key p2) hfind rfl ?_
    intro w hS
    refine s_nil (qn (s_seq (s_reg ?_)))
    refine s_v rfl rfl rfl ?_
    refine s_nil (qn (s_rets ?_))
    have hq := Option.some.inj hf
    subst hq
    refine s_ret1 rfl (rv_t rfl) ?_
    have he : ((entsFrom 0 p1).toArray.push ⟨Value.int .i64 p2, .bool true, p1.length⟩) = (entsFrom 0 (p1 ++ [p2])).toArray := by
      rw [← ents_push p1 p2 0]; simp; rfl
    refine ⟨K, _, KM.le.refl K, ⟨rfl, ?_, ?_, r0, rfl⟩, ?_⟩
    · exact List.nodup_append.2 ⟨hn, by simp, fun x hx1 y hy => by simp at hy; subst hy; exact fun e => hx (e ▸ hx1)⟩
    · simp; omega
    · have hS2 := hS.shut2
      rw [he] at hS2
      rw [show p1.length + 1 = (p1 ++ [p2]).length by simp] at hS2
      exact hS2

def set_Set_int_Has.fn (p1 : List Int) (p2 : Int) : Option (Bool × List Int) := some (decide (p2 ∈ p1), p1)
theorem set_Set_int_Has_spec {K : KM} {p1 : List Int} {p2 : Int} {r : Bool × List Int} {b : Nat} {C : Chunks} (hf : set_Set_int_Has.fn p1 p2 = some r) (h : SetO 62 K b p1 C) :
    Sp Try.prog 12 [.pointer (some ⟨b, 0, none⟩), Value.int .i64 p2] K (flat [C]) (fun K' C' v => v = .bool r.1 ∧ SetO 62 K' b r.2 C') := by
  unfold set_Set_int_Has.fn at hf
  obtain ⟨hn, hl, r0, rfl⟩ := h
  obtain ⟨a, hfind, hval, hnone⟩ := find_int p1 p2
  refine spec_enter isf12 rfl ?_
  intro w L hS
  replace hS : Sat w K (flat [[(b, Cl [.map (some r0)] 62)], [(r0, .map (entsFrom 0 p1).toArray p1.length)], L]) := hS.open.open2
  unfold bod12 Try.f12
  dsimp only [Option.getD_some, argSlots]
  refine s_seq (s_reg ?_)
  refine s_v rfl rfl rfl ?_
  refine s_nil (qn (s_seq (s_reg ?_)))
  iterate 3 refine s_v rfl rfl rfl ?_
  refine s_ld (v := .map (some r0)) 0 hS rfl rfl rfl rfl rfl ?_
  refine s_v rfl rfl rfl ?_
  refine s_lku (a := a) 1 hS rfl rfl rfl Try.underlying60 Try.underlying3 (Scal.key p2) hfind (zero4_int w) rfl rfl ?_
  rw [hval]
  refine s_v rfl rfl rfl ?_
  refine s_nil (qn (s_rets ?_))
  have hq := Option.some.inj hf
  subst hq
  refine s_ret1 rfl (rv_t rfl) ?_
  exact ⟨K, _, KM.le.refl K, ⟨rfl, hn, hl, r0, rfl⟩, hS.shut2⟩

def set_Set_int_Len.fn (p1 : List Int) : Option (Int × List Int) := some ((p1.length : Int), p1)
theorem set_Set_int_Len_spec {K : KM} {p1 : List Int} {r : Int × List Int} {b : Nat} {C : Chunks} (hf : set_Set_int_Len.fn p1 = some r) (h : SetO 62 K b p1 C) :
    Sp Try.prog 16 [.pointer (some ⟨b, 0, none⟩)] K (flat [C]) (fun K' C' v => v = .int .i64 r.1 ∧ SetO 62 K' b r.2 C') := by
  unfold set_Set_int_Len.fn at hf
  obtain ⟨hn, hl, r0, rfl⟩ := h
  refine spec_enter isf16 rfl ?_
  intro w L hS
  replace hS : Sat w K (flat [[(b, Cl [.map (some r0)] 62)], [(r0, .map (entsFrom 0 p1).toArray p1.length)], L]) := hS.open.open2
  unfold bod16 Try.f16
  dsimp only [Option.getD_some, argSlots]
  refine s_seq (s_reg ?_)
  refine s_v rfl rfl rfl ?_
  refine s_nil (qn (s_seq (s_reg ?_)))
  iterate 3 refine s_v rfl rfl rfl ?_
  refine s_ld (v := .map (some r0)) 0 hS rfl rfl rfl rfl rfl ?_
  refine s_lenm 1 hS rfl rfl Try.underlying60 rfl rfl ?_
  refine s_v rfl rfl rfl ?_
  refine s_nil (qn (s_rets ?_))
  have hq := Option.some.inj hf
  subst hq
  refine s_ret1 rfl (rv_t rfl) ?_
  refine ⟨K, _, KM.le.refl K, ⟨?_, hn, hl, r0, rfl⟩, hS.shut2⟩
  show Value.int .i64 (((entsFrom 0 p1).toArray.size : Nat) : Int) = _
  simp [ents_len]
end Go.Proofs.Ytdgpckcphkpclaa
