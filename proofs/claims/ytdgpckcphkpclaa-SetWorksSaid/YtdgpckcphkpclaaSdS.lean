/- Work of string: what its methods reckon, and that their code reckons it. -/
import Derived.Test.YtdgpckcphkpclaaSbS
import Derived.Test.YtdgpckcphkpclaaSn
import Derived.Test.YtdgpckcphkpclaaSdI
set_option linter.unusedVariables false
set_option linter.unusedSimpArgs false
set_option maxHeartbeats 0
set_option maxRecDepth 100000
namespace Go.Proofs.Ytdgpckcphkpclaa
open Go Go.Fw
noncomputable def bod39 : Code := Try.f39.body.getD .skip
theorem isf39 : IsFn Try.prog 39 Try.f39 bod39 := ⟨Try.func39, rfl, by decide⟩
noncomputable def bod49 : Code := Try.f49.body.getD .skip
theorem isf49 : IsFn Try.prog 49 Try.f49 bod49 := ⟨Try.func49, rfl, by decide⟩
noncomputable def bod28 : Code := Try.f28.body.getD .skip
theorem isf28 : IsFn Try.prog 28 Try.f28 bod28 := ⟨Try.func28, rfl, by decide⟩
noncomputable def bod69 : Code := Try.f69.body.getD .skip
theorem isf69 : IsFn Try.prog 69 Try.f69 bod69 := ⟨Try.func69, rfl, by decide⟩
noncomputable def bod70 : Code := Try.f70.body.getD .skip
theorem isf70 : IsFn Try.prog 70 Try.f70 bod70 := ⟨Try.func70, rfl, by decide⟩

def set_Work_string_Again.fn (p1 : WorkV ByteArray) (p2 : ByteArray) : Option (WorkV ByteArray) := (set_Set_string_Add.fn p1.ever p2).bind fun x => guardB (roomy p1.todo.length 1 16) (some ⟨bif decide (p2 ∈ p1.todo) then p1.todo else p1.todo.insertIdx (p1.todo.countP (fun y => Scal.lt y p2)) p2, x.2⟩)
theorem set_Work_string_Again_spec {K : KM} {p1 : WorkV ByteArray} {p2 : ByteArray} {r : WorkV ByteArray} {b : Nat} {C : Chunks} (hf : set_Work_string_Again.fn p1 p2 = some r) (h : WorkO 72 59 9 K b p1 C) :
    Sp Try.prog 49 [.pointer (some ⟨b, 0, none⟩), Value.string p2] K (flat [C]) (fun K' C' v => v = .tuple #[] ∧ WorkO 72 59 9 K' b r C') := by
  unfold set_Work_string_Again.fn at hf
  obtain ⟨hr, a, c, be, Ct, Cs, ht, hs, rfl⟩ := h
  obtain ⟨x, hx, hf⟩ := bs hf
  obtain ⟨hm, hf⟩ := gs hf
  have hm1 := roomy_le hm
  refine spec_enter isf49 rfl ?_
  intro w L hS
  replace hS : Sat w K (flat [[(b, Cl [.slice a p1.todo.length c, .pointer (some ⟨be, 0, none⟩)] 72)], Ct, Cs, L]) := hS.open1.open3
  unfold bod49 Try.f49
  dsimp only [Option.getD_some, argSlots]
  refine s_seq (s_reg ?_)
  iterate 3 refine s_v rfl rfl rfl ?_
  refine s_ld (v := .pointer (some ⟨be, 0, none⟩)) 0 hS rfl rfl rfl rfl rfl ?_
  refine s_v rfl rfl rfl ?_
  refine s_call isf29 (Sat.shut1 (hS.sel [2, 0, 1, 3] rfl)) (set_Set_string_Add_spec hx hs) rfl rfl rfl ?_
  rintro _ K2 Cs2 w hk2 ⟨rfl, hs2⟩ hS
  refine s_nil (qn (s_seq (s_reg ?_)))
  replace hS : Sat w K2 (flat [Cs2, [(b, Cl [.slice a p1.todo.length c, .pointer (some ⟨be, 0, none⟩)] 72)], Ct, L]) := hS
  iterate 3 refine s_v rfl rfl rfl ?_
  refine s_ld (v := .slice a p1.todo.length c) 1 hS rfl rfl rfl rfl rfl ?_
  refine s_v rfl rfl rfl ?_
  refine s_call isf69 (Sat.shut1 (hS.sel [2, 0, 1, 3] rfl)) (todo_search_string p2 ht hr (by omega)) rfl rfl rfl ?_
  rintro _ K3 Ct2 w hk3 ⟨rfl, ht2⟩ hS
  replace hS : Sat w K3 (flat [Ct2, Cs2, [(b, Cl [.slice a p1.todo.length c, .pointer (some ⟨be, 0, none⟩)] 72)], L]) := hS
  refine s_v rfl rfl rfl ?_
  refine s_v (v := .int .i64 ((p1.todo.countP (fun y => Scal.lt y p2) : Nat) : Int)) rfl rfl rfl ?_
  refine s_v (v := .bool (decide (p2 ∈ p1.todo))) rfl rfl rfl ?_
  iterate 2 refine s_v rfl rfl rfl ?_
  refine s_nil (qn (s_seq (s_reg ?_)))
  iterate 2 refine s_v rfl rfl rfl ?_
  refine s_nil (qn ?_)
  refine s_if rfl (fun hc => ?_) (fun hc => ?_)
  · have hni : p2 ∉ p1.todo := by simpa using hc
    have hd : decide (p2 ∈ p1.todo) = false := by simpa using hni
    rw [hd] at hf
    refine s_reg ?_
    iterate 4 refine s_v rfl rfl rfl ?_
    refine s_ld (v := .slice a p1.todo.length c) 2 hS rfl rfl rfl rfl rfl ?_
    iterate 2 refine s_v rfl rfl rfl ?_
    refine s_bwc (cs := [Value.string p2]) hS rfl rfl rfl rfl rfl rfl rfl rfl rfl rfl ?_
    intro bb w hS
    replace hS : Sat w K3 (flat [[(bb, Cl [Value.string p2] 9)], Ct2, Cs2, [(b, Cl [.slice a p1.todo.length c, .pointer (some ⟨be, 0, none⟩)] 72)], L]) := hS
    refine s_call isf70 (Sat.shut2 (hS.sel [1, 0, 2, 3, 4] rfl)) (todo_insert_string p2 (p1.todo.countP (fun y => Scal.lt y p2)) bb ht2 List.countP_le_length hm1) rfl rfl rfl ?_
    rintro v4 K4 Ct3 w hk4 ht3 hS
    have ht4 := ht3
    obtain ⟨a4, c4, rfl, _⟩ := ht3
    replace hS : Sat w K4 (flat [Ct3, Cs2, [(b, Cl [.slice a p1.todo.length c, .pointer (some ⟨be, 0, none⟩)] 72)], L]) := hS
    iterate 2 refine s_v rfl rfl rfl ?_
    refine s_st (cs' := [.slice a4 (p1.todo.insertIdx (p1.todo.countP (fun y => Scal.lt y p2)) p2).length c4, .pointer (some ⟨be, 0, none⟩)]) 2 hS rfl rfl rfl rfl rfl ?_
    intro w hS
    refine s_nil (s_fall0 rfl ?_)
    have hq := Option.some.inj hf
    subst hq
    exact ⟨K4, _, (hk2.trans hk3).trans hk4, ⟨rfl, rising_ins hr hni, a4, c4, be, Ct3, Cs2, ht4, hs2, rfl⟩, (hS.sel [2, 0, 1, 3] rfl).shut3⟩
  · have hin : p2 ∈ p1.todo := by simpa using hc
    have hd : decide (p2 ∈ p1.todo) = true := by simpa using hin
    rw [hd] at hf
    refine s_skip (s_fall0 rfl ?_)
    have hq := Option.some.inj hf
    subst hq
    exact ⟨K3, _, hk2.trans hk3, ⟨rfl, hr, a, c, be, Ct2, Cs2, ht2, hs2, rfl⟩, (hS.sel [2, 0, 1, 3] rfl).shut3⟩

def set_Work_string_Put.fn (p1 : WorkV ByteArray) (p2 : ByteArray) : Option (Bool × WorkV ByteArray) := (set_Set_string_Has.fn p1.ever p2).bind fun x => bif x.1 then some (false, ⟨p1.todo, x.2⟩) else (set_Work_string_Again.fn ⟨p1.todo, x.2⟩ p2).bind fun y => some (true, y)
theorem set_Work_string_Put_spec {K : KM} {p1 : WorkV ByteArray} {p2 : ByteArray} {r : Bool × WorkV ByteArray} {b : Nat} {C : Chunks} (hf : set_Work_string_Put.fn p1 p2 = some r) (h : WorkO 72 59 9 K b p1 C) :
    Sp Try.prog 39 [.pointer (some ⟨b, 0, none⟩), Value.string p2] K (flat [C]) (fun K' C' v => v = .bool r.1 ∧ WorkO 72 59 9 K' b r.2 C') := by
  unfold set_Work_string_Put.fn at hf
  obtain ⟨hr, a, c, be, Ct, Cs, ht, hs, rfl⟩ := h
  obtain ⟨x, hx, hf⟩ := bs hf
  refine spec_enter isf39 rfl ?_
  intro w L hS
  replace hS : Sat w K (flat [[(b, Cl [.slice a p1.todo.length c, .pointer (some ⟨be, 0, none⟩)] 72)], Ct, Cs, L]) := hS.open1.open3
  unfold bod39 Try.f39
  dsimp only [Option.getD_some, argSlots]
  refine s_seq (s_reg ?_)
  refine s_v rfl rfl rfl ?_
  refine s_nil (qn (s_seq (s_seq (s_reg ?_))))
  iterate 3 refine s_v rfl rfl rfl ?_
  refine s_ld (v := .pointer (some ⟨be, 0, none⟩)) 0 hS rfl rfl rfl rfl rfl ?_
  refine s_v rfl rfl rfl ?_
  refine s_call isf20 (Sat.shut1 (hS.sel [2, 0, 1, 3] rfl)) (set_Set_string_Has_spec hx hs) rfl rfl rfl ?_
  rintro _ K2 Cs2 w hk2 ⟨rfl, hs2⟩ hS
  replace hS : Sat w K2 (flat [Cs2, [(b, Cl [.slice a p1.todo.length c, .pointer (some ⟨be, 0, none⟩)] 72)], Ct, L]) := hS
  have hw : WorkO 72 59 9 K2 b ⟨p1.todo, x.2⟩ (flat [[(b, Cl [.slice a p1.todo.length c, .pointer (some ⟨be, 0, none⟩)] 72)], Ct, Cs2]) := ⟨hr, a, c, be, Ct, Cs2, ht, hs2, rfl⟩
  replace hS := (hS.sel [1, 2, 0, 3] rfl).shut3
  refine s_nil (qn ?_)
  refine s_if rfl (fun hc => ?_) (fun hc => ?_)
  · replace hf := bif_t hc hf
    refine s_seq (s_reg ?_)
    refine s_v rfl rfl rfl ?_
    refine s_nil (qn (s_rets (qrt ?_)))
    have hq := Option.some.inj hf
    subst hq
    refine s_ret1 rfl (rv_t rfl) ?_
    exact ⟨K2, _, hk2, ⟨rfl, hw⟩, hS⟩
  · replace hf := bif_f hc hf
    obtain ⟨y, hy, hf⟩ := bs hf
    refine s_skip (qn (s_seq (s_reg ?_)))
    iterate 2 refine s_v rfl rfl rfl ?_
    refine s_call isf49 (Sat.shut1 hS) (set_Work_string_Again_spec hy hw) rfl rfl rfl ?_
    rintro _ K3 C3 w hk3 ⟨rfl, hw3⟩ hS
    refine s_nil (qn (s_seq (s_reg ?_)))
    refine s_v rfl rfl rfl ?_
    refine s_nil (qn (s_rets ?_))
    have hq := Option.some.inj hf
    subst hq
    refine s_ret1 rfl (rv_t rfl) ?_
    exact ⟨K3, C3, hk2.trans hk3, ⟨rfl, hw3⟩, hS⟩

def set_Work_string_Take.fn (p1 : WorkV ByteArray) : Option (ByteArray × Bool × WorkV ByteArray) := match p1.todo with
  | [] => some (ByteArray.empty, false, p1)
  | x :: r => some (x, true, ⟨r, p1.ever⟩)
theorem set_Work_string_Take_spec {K : KM} {p1 : WorkV ByteArray} {r : ByteArray × Bool × WorkV ByteArray} {b : Nat} {C : Chunks} (hf : set_Work_string_Take.fn p1 = some r) (h : WorkO 72 59 9 K b p1 C) :
    Sp Try.prog 28 [.pointer (some ⟨b, 0, none⟩)] K (flat [C]) (fun K' C' v => v = .tuple #[Value.string r.1, .bool r.2.1] ∧ WorkO 72 59 9 K' b r.2.2 C') := by
  obtain ⟨todo, ever⟩ := p1
  obtain ⟨hr, a, c, be, Ct, Cs, ht, hs, rfl⟩ := h
  simp only at hr ht hs
  refine spec_enter isf28 rfl ?_
  intro w L hS
  replace hS : Sat w K (flat [[(b, Cl [.slice a todo.length c, .pointer (some ⟨be, 0, none⟩)] 72)], Ct, Cs, L]) := hS.open1.open3
  unfold bod28 Try.f28
  dsimp only [Option.getD_some, argSlots]
  refine s_seq (s_reg ?_)
  iterate 2 refine s_v rfl rfl rfl ?_
  refine s_nil (qn (s_seq (s_reg ?_)))
  refine s_v rfl rfl rfl ?_
  refine s_nil (qn (s_seq (s_seq (s_reg ?_))))
  iterate 3 refine s_v rfl rfl rfl ?_
  refine s_ld (v := .slice a todo.length c) 0 hS rfl rfl rfl rfl rfl ?_
  iterate 2 refine s_v rfl rfl rfl ?_
  refine s_nil (qn ?_)
  cases todo with
  | nil =>
    have hq := Option.some.inj hf
    subst hq
    refine s_if (b := true) rfl (fun _ => ?_) (fun h => nomatch h)
    refine s_seq (s_reg ?_)
    iterate 3 refine s_v rfl rfl rfl ?_
    refine s_nil (qn (s_rets (qrt ?_)))
    refine s_ret2 rfl (rv_t rfl) (rv_t rfl) ?_
    exact ⟨K, _, KM.le.refl K, ⟨rfl, hr, a, c, be, Ct, Cs, ht, hs, rfl⟩, hS.shut3⟩
  | cons x xs =>
    have hq := Option.some.inj hf
    subst hq
    obtain ⟨a1, c1, e1, hc1, hc2, ht⟩ := ht
    obtain ⟨rfl, rfl⟩ : a = a1 ∧ c = c1 := by injection e1 with h1 h2 h3; exact ⟨h1, h3⟩
    rcases ht with ⟨_, rfl, _⟩ | ⟨bt, pre, post, rfl, rfl, hc3, hne⟩
    · simp at hc1
    refine s_if (b := false) rfl (fun h => nomatch h) (fun _ => ?_)
    refine s_skip (qn (s_seq ?_))
    replace hS : Sat w K (flat [[(b, Cl [.slice (some ⟨bt, pre.length, none⟩) (x :: xs).length c, .pointer (some ⟨be, 0, none⟩)] 72)], [(bt, Cl (pre ++ ([Value.string x] ++ (xs.map Scal.enc ++ post))) 9)], Cs, L]) := hS
    refine d_start [1] [(15, [0])] hS ?_
    intro w hS
    refine d_v 0 (fun _ _ _ _ _ h => h) [1] hS rfl rfl rfl (by kernel_rfl) rfl rfl ?_
    refine d_v 1 (fun _ _ _ _ _ h => h) [1] hS rfl rfl rfl (by kernel_rfl) rfl rfl ?_
    refine d_v 2 (fun _ _ _ _ _ h => h) [1] hS rfl rfl rfl (by kernel_rfl) rfl rfl ?_
    refine d_v 3 (fun _ _ _ _ _ h => h) [1] hS rfl rfl rfl (by kernel_rfl) rfl rfl ?_
    refine d_ldh (v := .slice (some ⟨bt, pre.length, none⟩) (x :: xs).length c) 4 0 (fun _ _ _ _ _ h => h) [1] hS rfl rfl rfl (by kernel_rfl) rfl rfl (by kernel_rfl) rfl rfl ?_
    refine d_ix0 5 (fun _ _ _ _ _ h => h) [1] hS (by simp) rfl rfl rfl rfl rfl rfl (by kernel_rfl) rfl rfl ?_
    refine d_ldm (v := Value.string x) 6 0 0 (fun _ _ _ _ _ h => h) [1] hS rfl rfl rfl rfl rfl (by kernel_rfl) rfl rfl ?_
    refine d_v 7 (fun _ _ _ _ _ h => h) [1] hS rfl rfl rfl (by kernel_rfl) rfl rfl ?_
    refine d_v 8 (fun _ _ _ _ _ h => h) [1] hS rfl rfl rfl (by kernel_rfl) rfl rfl ?_
    refine d_v 9 (fun _ _ _ _ _ h => h) [1] hS rfl rfl rfl (by kernel_rfl) rfl rfl ?_
    refine d_ldh (v := .slice (some ⟨bt, pre.length, none⟩) (x :: xs).length c) 10 0 (fun _ _ _ _ _ h => h) [1] hS rfl rfl rfl (by kernel_rfl) rfl rfl (by kernel_rfl) rfl rfl ?_
    refine d_sl1 11 (fun _ _ _ _ _ h => h) [1] hS (by simp) hc1 rfl rfl rfl rfl rfl rfl rfl (by kernel_rfl) rfl rfl ?_
    refine d_v 12 (fun _ _ _ _ _ h => h) [1] hS rfl rfl rfl (by kernel_rfl) rfl rfl ?_
    refine d_v 13 (fun _ _ _ _ _ h => h) [1] hS rfl rfl rfl (by kernel_rfl) rfl rfl ?_
    refine d_v 14 (fun _ _ _ _ _ h => h) [1] hS rfl rfl rfl (by kernel_rfl) rfl rfl ?_
    refine d_op 15 rfl (by kernel_rfl) (by kernel_rfl) (fun X hX => ?_)
    have hlq := KM.le.refl K
    refine s_st (cs' := [.slice (some ⟨bt, if c = 1 then pre.length else pre.length + 1, none⟩) ((x :: xs).length - 1) (c - 1), .pointer (some ⟨be, 0, none⟩)]) 0 hS rfl rfl rfl rfl rfl ?_
    intro w hS
    replace hS : Sat w K (flat [[(b, Cl [.slice (some ⟨bt, if c = 1 then pre.length else pre.length + 1, none⟩) ((x :: xs).length - 1) (c - 1), .pointer (some ⟨be, 0, none⟩)] 72)], [(bt, Cl (pre ++ ([Value.string x] ++ (xs.map Scal.enc ++ post))) 9)], Cs, L]) := hS
    refine d_go [1] [1] [] [none] hX hS hlq rfl rfl ⟨rfl, trivial⟩ ?_
    refine d_end (by kernel_rfl) ?_
    refine qn (s_seq (s_reg ?_))
    iterate 3 refine s_v rfl rfl rfl ?_
    refine s_nil (qn (s_rets ?_))
    refine s_ret2 rfl (rv_t rfl) (rv_t rfl) ?_
    have hr2 : rising xs := (List.pairwise_cons.1 hr).2
    have ht2 : TodoR 9 (.slice (some ⟨bt, if c = 1 then pre.length else pre.length + 1, none⟩) xs.length (c - 1)) xs [(bt, Cl (pre ++ ([Value.string x] ++ (xs.map Scal.enc ++ post))) 9)] := by
      simp only [List.length_cons] at hc1 hc3
      refine ⟨_, _, rfl, by omega, by omega, .inr ?_⟩
      by_cases h1 : c = 1
      · have hx : xs = [] := List.eq_nil_of_length_eq_zero (by omega)
        subst hx
        rw [if_pos h1]
        exact ⟨bt, pre, Value.string x :: post, rfl, rfl, by simp; omega, by simp⟩
      · rw [if_neg h1]
        exact ⟨bt, pre ++ [Value.string x], post, by simp, by simp, by omega, by simp⟩
    exact ⟨K, _, KM.le.refl K, ⟨rfl, hr2, _, _, be, _, Cs, ht2, hs, rfl⟩, hS.shut3⟩
end Go.Proofs.Ytdgpckcphkpclaa
