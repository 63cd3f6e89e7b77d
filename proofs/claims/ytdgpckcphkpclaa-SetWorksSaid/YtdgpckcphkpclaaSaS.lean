/- Sets of string: what their methods reckon, and that their code reckons it. -/
import Derived.Test.YtdgpckcphkpclaaSty
import Derived.Test.YtdgpckcphkpclaaSaI
set_option linter.unusedVariables false
set_option linter.unusedSimpArgs false
set_option maxHeartbeats 0
set_option maxRecDepth 100000
namespace Go.Proofs.Ytdgpckcphkpclaa
open Go Go.Fw
noncomputable def bod29 : Code := Try.f29.body.getD .skip
theorem isf29 : IsFn Try.prog 29 Try.f29 bod29 := ⟨Try.func29, rfl, by decide⟩
noncomputable def bod20 : Code := Try.f20.body.getD .skip
theorem isf20 : IsFn Try.prog 20 Try.f20 bod20 := ⟨Try.func20, rfl, by decide⟩
noncomputable def bod22 : Code := Try.f22.body.getD .skip
theorem isf22 : IsFn Try.prog 22 Try.f22 bod22 := ⟨Try.func22, rfl, by decide⟩
theorem zero4_string (w : World) : (zeroValue 4).run Try.prog w = .ok (.bool false) w := by kernel_rfl

/-- what a look into a set tells -/
theorem find_string (s : List ByteArray) (x : ByteArray) : ∃ a, Instr.findNow (Scal.dk ByteArray) (Value.string x) (entsFrom 0 s).toArray.toList 0 = some a ∧ lkOr a (.bool false) = .bool (decide (x ∈ s)) ∧ (x ∉ s → a = none) := by
  have h := ents_find s x 0 0
  by_cases hx : x ∈ s
  · obtain ⟨j, hj⟩ := h.1 hx
    exact ⟨_, hj, by simp [hx, lkOr], fun h => absurd hx h⟩
  · exact ⟨_, h.2 hx, by simp [hx, lkOr], fun _ => rfl⟩

def set_Set_string_Add.fn (p1 : List ByteArray) (p2 : ByteArray) : Option (Bool × List ByteArray) := bif decide (p2 ∈ p1) then some (false, p1) else guardB (Nat.blt p1.length maxLen) (some (true, p1 ++ [p2]))
theorem set_Set_string_Add_spec {K : KM} {p1 : List ByteArray} {p2 : ByteArray} {r : Bool × List ByteArray} {b : Nat} {C : Chunks} (hf : set_Set_string_Add.fn p1 p2 = some r) (h : SetO 59 K b p1 C) :
    Sp Try.prog 29 [.pointer (some ⟨b, 0, none⟩), Value.string p2] K (flat [C]) (fun K' C' v => v = .bool r.1 ∧ SetO 59 K' b r.2 C') := by
  unfold set_Set_string_Add.fn at hf
  obtain ⟨hn, hl, r0, rfl⟩ := h
  obtain ⟨a, hfind, hval, hnone⟩ := find_string p1 p2
  refine spec_enter isf29 rfl ?_
  intro w L hS
  replace hS : Sat w K (flat [[(b, Cl [.map (some r0)] 59)], [(r0, .map (entsFrom 0 p1).toArray p1.length)], L]) := hS.open.open2
  unfold bod29 Try.f29
  dsimp only [Option.getD_some, argSlots]
  refine s_seq (s_reg ?_)
  refine s_v rfl rfl rfl ?_
  refine s_nil (qn (s_seq (s_seq (s_reg ?_))))
  iterate 3 refine s_v rfl rfl rfl ?_
  refine s_ld (v := .map (some r0)) 0 hS rfl rfl rfl rfl rfl ?_
  refine s_v rfl rfl rfl ?_
  refine s_lku (a := a) 1 hS rfl rfl rfl Try.underlying57 Try.underlying9 (Scal.key p2) hfind (zero4_string w) rfl rfl ?_
  rw [hval]
  refine s_nil (qn ?_)
  refine s_if rfl (fun hc => ?_) (fun hc => ?_)
  · rw [hc] at hf
    refine s_seq (s_reg ?_)
    refine s_v rfl rfl rfl ?_
    refine s_nil (qn (s_rets (qrt ?_)))
    have hq := Option.some.inj hf
    subst hq
    refine s_ret1 rfl (rv_t rfl) ?_
    exact ⟨K, _, KM.le.refl K, ⟨rfl, hn, hl, r0, rfl⟩, hS.shut2⟩
  · have hx : p2 ∉ p1 := by simpa using hc
    rw [hc] at hf
    obtain ⟨hm, hf⟩ := gs hf
    have hm' : p1.length < maxLen := by simpa using hm
    have := hnone hx; subst this
    refine s_skip (qn (s_seq (s_reg ?_)))
    iterate 3 refine s_v rfl rfl rfl ?_
    refine s_ld (v := .map (some r0)) 0 hS rfl rfl rfl rfl rfl ?_
    refine s_v rfl rfl rfl ?_
    refine s_mup 1 hS rfl rfl rfl rfl Try.underlying57 Try.underlying9 (Scal.key p2) hfind rfl ?_
    intro w hS
    refine s_nil (qn (s_seq (s_reg ?_)))
    refine s_v rfl rfl rfl ?_
    refine s_nil (qn (s_rets ?_))
    have hq := Option.some.inj hf
    subst hq
    refine s_ret1 rfl (rv_t rfl) ?_
    have he : ((entsFrom 0 p1).toArray.push ⟨Value.string p2, .bool true, p1.length⟩) = (entsFrom 0 (p1 ++ [p2])).toArray := by
      rw [← ents_push p1 p2 0]; simp; rfl
    refine ⟨K, _, KM.le.refl K, ⟨rfl, ?_, ?_, r0, rfl⟩, ?_⟩
    · exact List.nodup_append.2 ⟨hn, by simp, fun x hx1 y hy => by simp at hy; subst hy; exact fun e => hx (e ▸ hx1)⟩
    · simp; omega
    · have hS2 := hS.shut2
      rw [he] at hS2
      rw [show p1.length + 1 = (p1 ++ [p2]).length by simp] at hS2
      exact hS2

def set_Set_string_Has.fn (p1 : List ByteArray) (p2 : ByteArray) : Option (Bool × List ByteArray) := some (decide (p2 ∈ p1), p1)
theorem set_Set_string_Has_spec {K : KM} {p1 : List ByteArray} {p2 : ByteArray} {r : Bool × List ByteArray} {b : Nat} {C : Chunks} (hf : set_Set_string_Has.fn p1 p2 = some r) (h : SetO 59 K b p1 C) :
    Sp Try.prog 20 [.pointer (some ⟨b, 0, none⟩), Value.string p2] K (flat [C]) (fun K' C' v => v = .bool r.1 ∧ SetO 59 K' b r.2 C') := by
  unfold set_Set_string_Has.fn at hf
  obtain ⟨hn, hl, r0, rfl⟩ := h
  obtain ⟨a, hfind, hval, hnone⟩ := find_string p1 p2
  refine spec_enter isf20 rfl ?_
  intro w L hS
  replace hS : Sat w K (flat [[(b, Cl [.map (some r0)] 59)], [(r0, .map (entsFrom 0 p1).toArray p1.length)], L]) := hS.open.open2
  unfold bod20 Try.f20
  dsimp only [Option.getD_some, argSlots]
  refine s_seq (s_reg ?_)
  refine s_v rfl rfl rfl ?_
  refine s_nil (qn (s_seq (s_reg ?_)))
  iterate 3 refine s_v rfl rfl rfl ?_
  refine s_ld (v := .map (some r0)) 0 hS rfl rfl rfl rfl rfl ?_
  refine s_v rfl rfl rfl ?_
  refine s_lku (a := a) 1 hS rfl rfl rfl Try.underlying57 Try.underlying9 (Scal.key p2) hfind (zero4_string w) rfl rfl ?_
  rw [hval]
  refine s_v rfl rfl rfl ?_
  refine s_nil (qn (s_rets ?_))
  have hq := Option.some.inj hf
  subst hq
  refine s_ret1 rfl (rv_t rfl) ?_
  exact ⟨K, _, KM.le.refl K, ⟨rfl, hn, hl, r0, rfl⟩, hS.shut2⟩

def set_Set_string_Len.fn (p1 : List ByteArray) : Option (Int × List ByteArray) := some ((p1.length : Int), p1)
theorem set_Set_string_Len_spec {K : KM} {p1 : List ByteArray} {r : Int × List ByteArray} {b : Nat} {C : Chunks} (hf : set_Set_string_Len.fn p1 = some r) (h : SetO 59 K b p1 C) :
    Sp Try.prog 22 [.pointer (some ⟨b, 0, none⟩)] K (flat [C]) (fun K' C' v => v = .int .i64 r.1 ∧ SetO 59 K' b r.2 C') := by
  unfold set_Set_string_Len.fn at hf
  obtain ⟨hn, hl, r0, rfl⟩ := h
  refine spec_enter isf22 rfl ?_
  intro w L hS
  replace hS : Sat w K (flat [[(b, Cl [.map (some r0)] 59)], [(r0, .map (entsFrom 0 p1).toArray p1.length)], L]) := hS.open.open2
  unfold bod22 Try.f22
  dsimp only [Option.getD_some, argSlots]
  refine s_seq (s_reg ?_)
  refine s_v rfl rfl rfl ?_
  refine s_nil (qn (s_seq (s_reg ?_)))
  iterate 3 refine s_v rfl rfl rfl ?_
  refine s_ld (v := .map (some r0)) 0 hS rfl rfl rfl rfl rfl ?_
  refine s_lenm 1 hS rfl rfl Try.underlying57 rfl rfl ?_
  refine s_v rfl rfl rfl ?_
  refine s_nil (qn (s_rets ?_))
  have hq := Option.some.inj hf
  subst hq
  refine s_ret1 rfl (rv_t rfl) ?_
  refine ⟨K, _, KM.le.refl K, ⟨?_, hn, hl, r0, rfl⟩, hS.shut2⟩
  show Value.int .i64 (((entsFrom 0 p1).toArray.size : Nat) : Int) = _
  simp [ents_len]
end Go.Proofs.Ytdgpckcphkpclaa
