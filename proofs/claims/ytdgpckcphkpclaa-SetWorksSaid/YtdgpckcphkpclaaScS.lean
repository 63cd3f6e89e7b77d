/- Sets of string: all, rising. -/
import Derived.Test.YtdgpckcphkpclaaSdS
import Derived.Test.YtdgpckcphkpclaaSc0
import Derived.Shelf.SlSortCmp.NoneTotal
import Derived.Test.YtdgpckcphkpclaaScI
set_option linter.unusedVariables false
set_option linter.unusedSimpArgs false
set_option maxHeartbeats 0
set_option maxRecDepth 100000
namespace Go.Proofs.Ytdgpckcphkpclaa
open Go Go.Fw
noncomputable def bod18 : Code := Try.f18.body.getD .skip
theorem isf18 : IsFn Try.prog 18 Try.f18 bod18 := ⟨Try.func18, rfl, by decide⟩
noncomputable def bod34 : Code := Try.f34.body.getD .skip
theorem isf34 : IsFn Try.prog 34 Try.f34 bod34 := ⟨Try.func34, rfl, by decide⟩

theorem ltOf_string : Go.Proofs.ltOf cmpStr = (Scal.lt : ByteArray → ByteArray → Bool) := by
  funext x y
  show decide (cmpStr x y < 0) = Op.bytesLess x.toList y.toList
  unfold cmpStr
  cases Op.bytesLess x.toList y.toList <;> cases (x.toList == y.toList) <;> simp

private theorem nodup_le_string : ∀ (n : Nat) (js : List Nat), js.Nodup → (∀ j ∈ js, j < n) → js.length ≤ n
  | 0, js, _, h => by
    cases js with
    | nil => exact Nat.le_refl _
    | cons x r => exact absurd (h x (List.mem_cons_self ..)) (Nat.not_lt_zero _)
  | n + 1, js, hd, h => by
    have h1 := nodup_le_string n (js.erase n) (hd.erase n) (fun j hj => by
      have h2 := h j (List.mem_of_mem_erase hj)
      have h3 : j ≠ n := fun e => by subst e; exact (hd.not_mem_erase) hj
      omega)
    have h2 := List.length_erase (a := n) (l := js)
    split at h2 <;> omega

theorem cat_string {K : KM} {xs : List ByteArray} {l : List Value} (h : Cat 9 K xs l) : l = xs.map Scal.enc := by
  induction xs generalizing l with
  | nil => exact h
  | cons x r ih =>
    obtain ⟨a, b, rfl, h1, h2⟩ := h
    rw [ih h2, show a = [Value.string x] from h1]; rfl
theorem cat_mk_string (K : KM) (xs : List ByteArray) : Cat 9 K xs (xs.map Scal.enc) := by
  induction xs with
  | nil => rfl
  | cons x r ih => exact ⟨[Value.string x], _, rfl, rfl, ih⟩

/-- the library's sort of a row of one's own -/
theorem sort_string {K : KM} {a : Option Addr} {n c : Nat} {xs : List ByteArray} {C : Chunks} (h : OwnS 9 K (.slice a n c) xs C) (hsz : xs.length < 4611686018427387904) :
    Sp Try.prog 34 [.slice a n c, .func (.func 35) #[] #[]] K (flat [C]) (fun K' C' v => v = .tuple #[] ∧ OwnS 9 K' (.slice a n c) (srt xs) C') := by
  intro w L hS
  have hn := OwnS.len h
  have hl : (srt xs).length = xs.length := (srt_perm xs).length_eq
  have hh := h
  obtain ⟨l, ho, hcat⟩ := h
  obtain rfl := cat_string hcat
  by_cases h0 : xs = []
  · subst h0
    obtain rfl : n = 0 := hn.symm
    have := AnyF.slices_SortFunc_none (P := Try.prog) { Try.sortS with } a c (.func (.func 35) #[] #[]) w
    refine (show Calls Try.prog 34 _ _ _ from this).mono fun e w' ⟨he, hw⟩ => ?_
    subst he hw
    have h0 : srt ([] : List ByteArray) = [] := by simp [srt]
    refine ⟨K, C, KM.le.refl K, ⟨rfl, ?_⟩, hS.open1⟩
    rw [h0]; exact hh
  · rcases ho with ⟨e1, _, hx, _⟩ | ⟨b, cap, r, hv, rfl, hnc, hcm, hlen, htot⟩
    · exact absurd (List.eq_nil_of_length_eq_zero (by simpa using congrArg List.length hx)) h0
    · cases hv
      have hS' : Sat w K ((b, Cl ([] ++ (xs.map Scal.enc ++ r)) 9) :: flat [L]) := hS.open
      have hcell := cellsR hS'
      have hlt : b < w.heap.size := (Array.getElem?_eq_some_iff.1 (hS'.owned _ (List.mem_cons_self ..))).1
      have := Any.slices_SortFunc_total (P := Try.prog) Try.sortS (Scal.enc : ByteArray → Value) (fun _ => rfl) cmpStr (ltOf_string ▸ swo_scal) 35 #[] b 0 c xs.toArray w
        (enters_of Try.func35 (by kernel_rfl) rfl) (CmpReads.lays (fun _ _ _ _ x y => cloS x y _)) (fun j hj => by
          have hj' : j < xs.length := by simpa using hj
          refine ⟨?_, frozenA hS' _⟩
          have h2 : (xs.map (Scal.enc : ByteArray → Value))[j]? = some (Scal.enc xs[j]) := by simp [hj']
          have := hcell j _ h2
          simpa [hj'] using this) hlt (by simpa using hsz) (fun x y h1 h2 => by rw [ltOf_string] at h1 h2; exact Scal.tot x y h1 h2)
      rw [ltOf_string] at this
      have hsize : xs.toArray.size = xs.length := by simp
      rw [hsize] at this
      refine (show Calls Try.prog 34 _ _ _ from this).mono fun e w' ⟨he, m, os, hw⟩ => ?_
      subst he hw
      have h3 : (srt xs).toArray.size = xs.length := by simp [hl]
      have h4 := (Sat.putRow (pre := []) Scal.enc h3 (hS'.ahead m)).grow os
      refine ⟨K, [(b, Cl ((srt xs).map Scal.enc ++ r) 9)], KM.le.refl K, ⟨rfl, (srt xs).map Scal.enc, .inr ⟨b, c, r, by rw [hl], rfl, by rw [hl]; exact hnc, hcm, by rw [List.length_map]; exact (Nat.mul_one _).symm, by simpa [hl] using htot⟩, cat_mk_string K _⟩, ?_⟩
      simp only [List.nil_append, List.length_nil] at h4
      exact h4

def set_Set_string_List.fn (p1 : List ByteArray) : Option (List ByteArray × List ByteArray) := guardB (roomy p1.length 0 16) (some (srt p1, p1))
theorem set_Set_string_List_spec {K : KM} {p1 : List ByteArray} {r : List ByteArray × List ByteArray} {b : Nat} {C : Chunks} (hf : set_Set_string_List.fn p1 = some r) (h : SetO 59 K b p1 C) :
    Sp Try.prog 18 [.pointer (some ⟨b, 0, none⟩)] K (flat [C]) (fun K' C' v => ∃ (a : Option Addr) (c : Nat) (C_0 C_1 : Chunks), v = (.slice a r.1.length c) ∧ OwnS 9 K' (.slice a r.1.length c) r.1 C_0 ∧ SetO 59 K' b r.2 C_1 ∧ C' = flat [C_0, C_1]) := by
  unfold set_Set_string_List.fn at hf
  obtain ⟨hm, hf⟩ := gs hf
  have hm1 := roomy_le hm
  have hq := Option.some.inj hf
  subst hq
  obtain ⟨hn, hl, r0, rfl⟩ := h
  refine spec_enter isf18 rfl ?_
  intro w L hS
  replace hS : Sat w K (flat [[(b, Cl [.map (some r0)] 59)], [(r0, .map (entsFrom 0 p1).toArray p1.length)], L]) := hS.open.open2
  unfold bod18 Try.f18
  dsimp only [Option.getD_some, argSlots]
  refine s_seq (s_reg ?_)
  refine s_v rfl rfl rfl ?_
  refine s_nil (qn (s_seq (s_reg ?_)))
  refine s_v rfl rfl rfl ?_
  refine s_nil (qn ?_)
  refine s_cut (fun τ w => ∃ (out : List ByteArray) (a : Option Addr) (c : Nat) (Co : Chunks), τ = [(3, (.slice a out.length c))] ∧ out.Perm p1 ∧ OwnS 9 K (.slice a out.length c) out Co ∧ Sat w K (flat [Co, [(b, Cl [.map (some r0)] 59)], [(r0, .map (entsFrom 0 p1).toArray p1.length)], L])) (fun J hJ => ?_) ?_
  · refine s_seq (s_reg ?_)
    iterate 3 refine s_v rfl rfl rfl ?_
    refine s_ld (v := .map (some r0)) 0 hS rfl rfl rfl rfl rfl ?_
    refine s_rng 1 hS rfl rfl Try.underlying57 rfl rfl ?_
    intro bi w hS
    refine s_nil (qn (s_block ?_))
    refine s_loopp (fun n τ w => ∃ (js : List Nat) (out : List ByteArray) (a : Option Addr) (c : Nat) (Co : Chunks), n = p1.length - js.length + 1 ∧ js.Nodup ∧ (∀ j ∈ js, j < p1.length) ∧ out.map some = js.map (fun j => p1[j]?) ∧ τ = [(3, (.slice a out.length c)), (9, (.pointer (some ⟨bi, 0, none⟩)))] ∧ OwnS 9 K (.slice a out.length c) out Co ∧ Sat w K (flat [[(bi, .mapIter (some r0) p1.length js.toArray p1.length)], Co, [(b, Cl [.map (some r0)] 59)], [(r0, .map (entsFrom 0 p1).toArray p1.length)], L])) _
      ⟨[], [], none, 0, [], rfl, List.nodup_nil, fun _ h => absurd h (by simp), rfl, rfl, OwnS.nil, hS⟩ ⟨rfl, rfl, trivial⟩ ?_ ?_
    · rintro _ _ ⟨_, _, _, _, _, h, _⟩; omega
    rintro n _ w Y hY ⟨js, out, a, c, Co, hnn, hjn, hjl, hout, rfl, ho, hS⟩
    have hlo : out.length = js.length := by simpa using congrArg List.length hout
    have hjle : js.length ≤ p1.length := by
      exact nodup_le_string _ _ hjn hjl
    refine s_seq (s_reg ?_)
    refine s_nxt 0 3 hS rfl rfl rfl (fun x hx => ?_) (Nat.le_refl _) rfl rfl (fun hall => ?_) (fun x hx hnot w hS => ?_)
    · obtain ⟨j, _, h2, y, h3, _, _⟩ := ents_mem p1 0 x (by simpa using hx)
      have := (List.getElem?_eq_some_iff.1 h3).1
      omega
    · refine s_v (v := .bool false) rfl rfl rfl ?_
      refine s_nil (qn (s_seq ?_))
      refine s_if (b := false) rfl (fun h => nomatch h) (fun _ => ?_)
      refine s_exit (qxt (qxt (qxb (qn ?_))))
      have hperm : out.Perm p1 := by
        have h1 : js.Perm (List.range p1.length) := (List.perm_ext_iff_of_nodup hjn List.nodup_range).2 (fun j => ⟨fun hj => List.mem_range.2 (hjl j hj), fun hj => by
          have hlt := List.mem_range.1 hj
          have := hall _ (by simpa using ents_at p1 0 j p1[j] (List.getElem?_eq_getElem hlt))
          simpa using this⟩)
        have h2 : (out.map some).Perm (p1.map some) := by
          rw [hout]
          refine (h1.map _).trans ?_
          refine List.Perm.of_eq (List.ext_getElem? fun i => ?_)
          rw [List.getElem?_map, List.getElem?_map]
          rcases Nat.lt_or_ge i p1.length with hlt | hge
          · rw [List.getElem?_range hlt, List.getElem?_eq_getElem hlt]; simp [hlt]
          · rw [List.getElem?_eq_none (by simpa using hge), List.getElem?_eq_none hge]; rfl
        have h3 := h2.filterMap id
        simpa [List.filterMap_map] using h3
      refine s_join hJ _ ⟨out, a, c, Co, rfl, hperm, ho, hS.sel [1, 2, 3, 4] rfl⟩ ⟨rfl, trivial⟩
    · obtain ⟨j, _, h2, y, h3, hkey, hval⟩ := ents_mem p1 0 x (by simpa using hx)
      have hjlt := (List.getElem?_eq_some_iff.1 h3).1
      have hborn : x.born = j := by omega
      have hnotj : j ∉ js := by rw [← hborn]; simpa using hnot
      replace hS : Sat w K (flat [[(bi, .mapIter (some r0) p1.length (js.toArray.push x.born) p1.length)], Co, [(b, Cl [.map (some r0)] 59)], [(r0, .map (entsFrom 0 p1).toArray p1.length)], L]) := hS
      refine s_v (v := .bool true) rfl rfl rfl ?_
      refine s_nil (qn (s_seq ?_))
      refine s_if (b := true) rfl (fun _ => ?_) (fun h => nomatch h)
      refine s_skip (qn (s_block (s_seq (s_reg ?_))))
      refine s_ent (e := x) 0 3 hS rfl rfl rfl ?_ rfl rfl ?_
      · refine find_born x _ ?_ hx
        have hb : ∀ (s : List ByteArray) (i : Nat), (entsFrom i s).map (·.born) = List.range' i s.length := by
          intro s
          induction s with
          | nil => intro i; rfl
          | cons z s ih => intro i; simp [entsFrom, ih, List.range'_succ]
        simp only [hb]
        exact List.nodup_range'
      rw [hkey, hval]
      refine s_v (v := Value.string y) rfl rfl rfl ?_
      refine s_v rfl rfl rfl ?_
      refine s_nil (qn (s_reg ?_))
      iterate 2 refine s_v rfl rfl rfl ?_
      refine s_bwc (cs := [Value.string y]) hS rfl rfl rfl rfl rfl rfl rfl rfl rfl rfl ?_
      intro bl w hS
      have hmm : js.length + 1 ≤ p1.length := by
        have := nodup_le_string p1.length (j :: js) (List.nodup_cons.2 ⟨hnotj, hjn⟩) (fun q hq => by
          rcases List.mem_cons.1 hq with rfl | hq
          · exact hjlt
          · exact hjl q hq)
        exact this
      refine s_appv (e := 9) (ys := ([y] : List ByteArray)) 2 0 hS rfl ho rfl ⟨[Value.string y], [], rfl, rfl, rfl⟩ rfl rfl rfl rfl rfl rfl rfl rfl (by rw [hlo]; simp only [List.length_singleton]; exact Nat.le_trans (Nat.mul_le_mul_right _ (by omega)) hm1) rfl rfl rfl ?_
      intro a2 c2 w C2 ho2 hS
      refine s_v rfl rfl rfl ?_
      refine s_nil (qbn (qn ?_))
      refine s_join hY _ ⟨js ++ [x.born], out ++ [y], a2, c2, C2, ?_, ?_, ?_, ?_, rfl, ho2, ?_⟩ ⟨rfl, rfl, trivial⟩
      · simp; omega
      · rw [hborn]; exact List.nodup_append.2 ⟨hjn, by simp, fun p hp q hq => by simp at hq; subst hq; exact fun e => hnotj (e ▸ hp)⟩
      · intro q hq
        rcases List.mem_append.1 hq with hq | hq
        · exact hjl q hq
        · simp at hq; omega
      · rw [List.map_append, List.map_append, hout, hborn]; simp [h3]
      · have := hS.sel [1, 2, 3, 4, 5] rfl
        rw [show (js ++ [x.born]).toArray = js.toArray.push x.born by simp]
        exact this
  rintro _ w ⟨out, a, c, Co, rfl, hperm, ho, hS⟩
  have hlo := hperm.length_eq
  refine s_seq (s_reg ?_)
  refine s_v rfl rfl rfl ?_
  refine s_call isf34 (Sat.shut1 hS) (sort_string ho (by omega)) rfl rfl rfl ?_
  rintro _ K2 C2 w hk2 ⟨rfl, ho2⟩ hS
  refine s_nil (qn (s_seq (s_reg ?_)))
  iterate 2 refine s_v rfl rfl rfl ?_
  refine s_nil (qn (s_rets ?_))
  refine s_ret1 rfl (rv_t rfl) ?_
  have he : srt out = srt p1 := srt_eq hperm
  rw [he] at ho2
  have hls : (srt p1).length = out.length := by rw [(srt_perm p1).length_eq, hlo]
  refine ⟨K2, _, hk2, ⟨a, c, C2, _, by rw [hls], by rw [hls]; exact ho2, ⟨hn, hl, r0, rfl⟩, rfl⟩, ?_⟩
  have h5 : Sat w K2 (flat [[(b, Cl [.map (some r0)] 59)], [(r0, .map (entsFrom 0 p1).toArray p1.length)], C2, L]) := hS.sel [1, 2, 0, 3] rfl
  have h6 := h5.shut2
  have h7 : Sat w K2 (flat [C2, [(b, Cl [.map (some r0)] 59)] ++ [(r0, .map (entsFrom 0 p1).toArray p1.length)], L]) := h6.sel [1, 0, 2] rfl
  exact h7.shut2
end Go.Proofs.Ytdgpckcphkpclaa
