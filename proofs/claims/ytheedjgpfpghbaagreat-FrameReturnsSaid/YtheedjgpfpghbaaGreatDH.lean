/- A deterministic evaluator: maps. -/
import Derived.Test.YtheedjgpfpghbaaGreatDG
import Derived.Test.YtheedjgpfpghbaaGreatFwO
set_option linter.unusedVariables false
set_option linter.unusedSectionVars false
set_option linter.unusedSimpArgs false
namespace Go.Ev
open Go Go.Fw
variable [Sym]
section
variable {P : Program} {T : Tab} {ρ : Rho} {tab : Nat → Option TI} {eqs : Nat → Option (List TK)} {zt : Nat → Option Value} {e : Operand → Option Value} {σ : Slots} {v : Value} {N : Nat} {a : Act} {w : World} {K : KM} {L : Chunks} {M M' : Mem}
  {call : Nat → List Value → Mem → Option (Value × Mem)}

theorem sameStr (x y : ByteArray) : Instr.sameNow .string (.string x) (.string y) = some (decide (x = y)) := by
  simp only [Instr.sameNow]
  congr 1
  have key : (x == y) = true ↔ x = y := by
    show (x.data == y.data) = true ↔ _
    rw [beq_iff_eq]; exact ⟨fun h => ByteArray.ext h, fun h => h ▸ rfl⟩
  by_cases h : x = y
  · rw [key.2 h]; simp [h]
  · cases hb : (x == y) with
    | true => exact absurd (key.1 hb) h
    | false => simp [h]
theorem sameInt (x y : Int) : Instr.sameNow (.int .i64) (.int .i64 x) (.int .i64 y) = some (decide (x = y)) := by
  simp only [Instr.sameNow, if_true]; congr 1

theorem keySame_eq {dd : TypeDesc} {k q : Value} {b : Bool} (hk : keyOk (kindOf dd) k = true) (h : keySame k q = some b) : Instr.sameNow dd k q = some b := by
  unfold keySame at h
  split at h
  · rename_i x y
    cases h
    have hd : dd = .string := by cases dd <;> simp_all [kindOf, keyOk]
    subst hd
    have := sameStr x y
    rw [show Instr.sameNow .string (.string x) (.string y) = _ from this]
    congr 1
    unfold strEq
    by_cases hxy : x = y
    · subst hxy; simp
    · rw [decide_eq_false hxy]
      cases hq : (x.data.toList == y.data.toList) with
      | false => rfl
      | true => rw [beq_iff_eq] at hq; exact absurd (ByteArray.ext (Array.toList_inj.1 hq)) hxy
  · rename_i x y
    cases h
    have hd : dd = .int .i64 := by
      cases dd <;> simp_all [kindOf, keyOk]
      rename_i kk; cases kk <;> simp_all [keyOk]
    subst hd
    have := sameInt x y
    rw [show Instr.sameNow (.int .i64) (.int .i64 x) (.int .i64 y) = _ from this]
    congr 1
  · cases h

theorem findD_R {dd : TypeDesc} {k : Value} (hk : keyOk (kindOf dd) k = true) : ∀ {i off : Nat} {es : List (Value × Value)} {ms : List MapEntry} {r : Option Value}, EntR ρ i es ms → findD k es = some r →
    (r = none → Instr.findNow dd k ms off = some none) ∧ (∀ u, r = some u → ∃ j u', Instr.findNow dd k ms off = some (some (j, u')) ∧ RC ρ u u') := by
  intro i off es ms r hE
  induction hE generalizing off with
  | nil => intro h; cases h; exact ⟨(fun _ => rfl), (fun u hu => by cases hu)⟩
  | cons hp hv t ih =>
    intro h
    simp only [findD] at h
    split at h
    · rename_i hs
      cases h
      have := keySame_eq hk hs
      exact ⟨(fun h => by cases h), (fun u hu => by cases hu; exact ⟨off, _, by simp only [Instr.findNow, this], hv⟩)⟩
    · rename_i hs
      have := keySame_eq hk hs
      simp only [Instr.findNow, this]
      exact ih h
    · cases h

theorem EntR.push {i : Nat} {es : List (Value × Value)} {ms : List MapEntry} {k u u' : Value} (h : EntR ρ i es ms) (hk : plainV k = true) (hv : RC ρ u u') : EntR ρ i (es ++ [(k, u)]) (ms ++ [⟨k, u', i + es.length⟩]) := by
  induction h with
  | nil => exact .cons hk hv .nil
  | @cons i k0 v0 u0 es ms hk0 hv0 t ih =>
    refine .cons hk0 hv0 ?_
    have e9 : i + ((k0, v0) :: es).length = i + 1 + es.length := by simp; omega
    rw [e9]; exact ih
theorem EntR.len {i : Nat} {es : List (Value × Value)} {ms : List MapEntry} (h : EntR ρ i es ms) : ms.length = es.length := by
  induction h with
  | nil => rfl
  | cons _ _ _ ih => simp [ih]

theorem isKey_of {dd : TypeDesc} {k : Value} (hk : keyOk (kindOf dd) k = true) : MapKept.IsKey dd k ∧ plainV k = true := by
  unfold keyOk at hk
  split at hk
  · rename_i h
    have hd : dd = .string := kind_string h
    subst hd; exact ⟨trivial, rfl⟩
  · rename_i h
    have hd : dd = .int .i64 := kind_int h
    subst hd; exact ⟨rfl, rfl⟩
  · cases hk

theorem RV.key {k u : Value} (hk : plainV k = true) (h : RV ρ k u) : u = k := by
  cases h with
  | tup h => cases hk
  | c h => cases h with
    | agg h => cases hk
    | s h => cases h with
      | plain h => rfl
      | map h => cases hk
      | ptr h => cases hk
      | sl h _ _ _ => cases hk
      | slu h _ _ _ => cases hk
      | slz => cases hk
      | sym _ _ => cases hk
      | any _ => cases hk
      | fn _ => cases hk

theorem RV.mapv {b : Nat} {u : Value} (h : RV ρ (.map (some b)) u) : ∃ b' m, ρ b = some (b', 0, m) ∧ u = .map (some b') := by
  cases h with | c h => cases h with | s h => cases h with
    | plain h => cases h
    | map h => exact ⟨_, _, h, rfl⟩

theorem opm_mapUpdate [hT : TabC P T] {t : TypeId} {m k x : Operand} (hlim : M.nx < 1000000) (hS : SubT tab T) (ha : Fits N a σ) (hE : EvR ρ e σ) (hW : World.Is w K L ρ M) (h : opm tab zt call (.mapUpdate t m k x) e M = some (v, M')) : MSkip P a (.mapUpdate t m k x) w K L ρ M M' := by
  simp only [opm, opmLoad, opmStore, opmBuildSlice, opmMakeSlice, opmUpdate, opmInsert, opmLookup, opmAppend, opmClear, opmCopy, opmText] at h
  split at h
  · rename_i b kv xv i hm hk hx ht
    split at h
    · rename_i es kt et hblk0 hkd
      split at h
      · rename_i j hj
        cases hb : (keyOk j.kind kv && okC xv) with
        | false => rw [hb] at h; cases h
        | true =>
          rw [hb] at h
          simp only [cond_true] at h
          simp only [Bool.and_eq_true] at hb
          split at h
          · rename_i hf
            cases h
            obtain ⟨ids, C, hM, hw⟩ := hW
            obtain ⟨pp, C', ids', hp, hblk, hrest⟩ := hM.pull hblk0
            obtain ⟨u1, h1, h2⟩ := hE _ _ hm
            obtain ⟨u2, h3, h4⟩ := hE _ _ hk
            obtain ⟨u3, h5, h6⟩ := hE _ _ hx
            obtain ⟨b', mm, h7, rfl⟩ := h2.mapv
            cases hblk with
            | @map _ ms b2 hρ hent =>
            have hρ0 := hρ
            rw [h7] at hρ; cases hρ
            obtain ⟨d0, hu, hk0, _⟩ := entry_spec (hT.all.get (hS _ _ ht))
            have hd1 := kind_map (hk0.trans hkd)
            rw [hd1] at hu
            obtain ⟨d2, hu2, hk2, _⟩ := entry_spec (hT.all.get (hS _ _ hj))
            have hko : keyOk (kindOf d2) kv = true := by rw [hk2]; exact hb.1
            obtain ⟨hisk, hpl⟩ := isKey_of hko
            obtain rfl := h4.key hpl
            have hfn := (findD_R (off := 0) hko hent hf).1 rfl
            have hs : Sat w K ((b', .map ms.toArray es.length) :: (C' ++ L)) := by simpa using hw.perm (hp.append_right L)
            have hh := hs.owned _ (List.mem_cons_self ..)
            have hc3 : RC ρ xv u3 := by
              cases h6 with
              | c h => exact h
              | tup h => cases hb.2
            refine ⟨{ w with heap := w.heap.setIfInBounds b' (.map (ms.toArray.push ⟨u2, u3, es.length⟩) (es.length + 1)) }, ρ, fun d ty pos af g => ?_, .same (Nat.le_refl _), _, _, hrest.set (p := (b', .map (ms.toArray.push ⟨u2, u3, es.length⟩) (es.length + 1))) hlim (fun _ _ h => h) hM.low ?_, ?_⟩
            · simp only [execOp, ha.ev h1, ha.ev h3, ha.ev h5, Sem.run_bind, Instr.mapUpdate, underlying_run hu, Result.andThen_ok, MapKept.run_getObj_map hh, Sem.run_pure, MapKept.run_checkKey hu2 hisk, MapKept.run_findKey hu2 hfn]
              rw [MapKept.run_setObj_map _ hh]
              rfl
            · have hpush := hent.push hpl hc3
              have e9 : (ms.toArray.push (⟨u2, u3, es.length⟩ : MapEntry)) = (ms ++ [(⟨u2, u3, 0 + es.length⟩ : MapEntry)]).toArray := by
                apply Array.ext'; simp
              have e8 : es.length + 1 = (es ++ [(u2, xv)]).length := by simp
              rw [e9, e8]
              exact .map hρ0 hpush
            · exact hs.turn (fun q hq => set_heap_ne hq) (set_heap_eq hh) rfl rfl rfl
          · cases h
      · cases h
    · cases h
  · cases h
theorem opm_insert [hT : TabC P T] {t : TypeId} {m k x : Operand} (hlim : M.nx < 1000000) (hS : SubT tab T) (ha : Fits N a σ) (hE : EvR ρ e σ) (hW : World.Is w K L ρ M) (h : opm tab zt call (.insert t m k x) e M = some (v, M')) : MSkip P a (.insert t m k x) w K L ρ M M' := by
  simp only [opm, opmLoad, opmStore, opmBuildSlice, opmMakeSlice, opmUpdate, opmInsert, opmLookup, opmAppend, opmClear, opmCopy, opmText] at h
  split at h
  · rename_i b kv xv i hm hk hx ht
    split at h
    · rename_i es kt et hblk0 hkd
      split at h
      · rename_i j hj
        cases hb : (keyOk j.kind kv && okC xv) with
        | false => rw [hb] at h; cases h
        | true =>
          rw [hb] at h
          simp only [cond_true] at h
          simp only [Bool.and_eq_true] at hb
          split at h
          · rename_i hf
            cases h
            obtain ⟨ids, C, hM, hw⟩ := hW
            obtain ⟨pp, C', ids', hp, hblk, hrest⟩ := hM.pull hblk0
            obtain ⟨u1, h1, h2⟩ := hE _ _ hm
            obtain ⟨u2, h3, h4⟩ := hE _ _ hk
            obtain ⟨u3, h5, h6⟩ := hE _ _ hx
            obtain ⟨b', mm, h7, rfl⟩ := h2.mapv
            cases hblk with
            | @map _ ms b2 hρ hent =>
            have hρ0 := hρ
            rw [h7] at hρ; cases hρ
            obtain ⟨d0, hu, hk0, _⟩ := entry_spec (hT.all.get (hS _ _ ht))
            have hd1 := kind_map (hk0.trans hkd)
            rw [hd1] at hu
            obtain ⟨d2, hu2, hk2, _⟩ := entry_spec (hT.all.get (hS _ _ hj))
            have hko : keyOk (kindOf d2) kv = true := by rw [hk2]; exact hb.1
            obtain ⟨hisk, hpl⟩ := isKey_of hko
            obtain rfl := h4.key hpl
            have hfn := (findD_R (off := 0) hko hent hf).1 rfl
            have hs : Sat w K ((b', .map ms.toArray es.length) :: (C' ++ L)) := by simpa using hw.perm (hp.append_right L)
            have hh := hs.owned _ (List.mem_cons_self ..)
            have hc3 : RC ρ xv u3 := by
              cases h6 with
              | c h => exact h
              | tup h => cases hb.2
            refine ⟨{ w with heap := w.heap.setIfInBounds b' (.map (ms.toArray.push ⟨u2, u3, es.length⟩) (es.length + 1)) }, ρ, fun d ty pos af g => ?_, .same (Nat.le_refl _), _, _, hrest.set (p := (b', .map (ms.toArray.push ⟨u2, u3, es.length⟩) (es.length + 1))) hlim (fun _ _ h => h) hM.low ?_, ?_⟩
            · simp only [execOp, ha.ev h1, ha.ev h3, ha.ev h5, Sem.run_bind, Instr.mapUpdate, underlying_run hu, Result.andThen_ok, MapKept.run_getObj_map hh, Sem.run_pure, MapKept.run_checkKey hu2 hisk, MapKept.run_findKey hu2 hfn]
              rw [MapKept.run_setObj_map _ hh]
              rfl
            · have hpush := hent.push hpl hc3
              have e9 : (ms.toArray.push (⟨u2, u3, es.length⟩ : MapEntry)) = (ms ++ [(⟨u2, u3, 0 + es.length⟩ : MapEntry)]).toArray := by
                apply Array.ext'; simp
              have e8 : es.length + 1 = (es ++ [(u2, xv)]).length := by simp
              rw [e9, e8]
              exact .map hρ0 hpush
            · exact hs.turn (fun q hq => set_heap_ne hq) (set_heap_eq hh) rfl rfl rfl
          · cases h
      · cases h
    · cases h
  · cases h

theorem opm_lookup [hT : TabC P T] {t : TypeId} {m k : Operand} {ok : Bool} (hS : SubT tab T) (hzt : ∀ t z, zt t = some z → (∀ w : World, (zeroValue t).run P w = .ok z w) ∧ plainC z = true) (ha : Fits N a σ) (hE : EvR ρ e σ) (hW : World.Is w K L ρ M) (h : opm tab zt call (.lookup t m k ok) e M = some (v, M')) : RRun P a (.lookup t m k ok) w ρ M v M' := by
  simp only [opm, opmLoad, opmStore, opmBuildSlice, opmMakeSlice, opmUpdate, opmInsert, opmLookup, opmAppend, opmClear, opmCopy, opmText] at h
  split at h
  · rename_i b kv i hm hk ht
    split at h
    · rename_i es kt et hblk0 hkd
      split at h
      · rename_i j hj
        cases hb : keyOk j.kind kv with
        | false => rw [hb] at h; cases h
        | true =>
          rw [hb] at h
          simp only [cond_true] at h
          have hW0 := hW
          obtain ⟨ids, C, hM, hw⟩ := hW
          obtain ⟨pp, C', ids', hp, hblk, hrest⟩ := hM.pull hblk0
          obtain ⟨u1, h1, h2⟩ := hE _ _ hm
          obtain ⟨u2, h3, h4⟩ := hE _ _ hk
          obtain ⟨b', mm, h7, rfl⟩ := h2.mapv
          cases hblk with
          | @map _ ms b2 hρ hent =>
          rw [h7] at hρ; cases hρ
          obtain ⟨d0, hu, hk0, _⟩ := entry_spec (hT.all.get (hS _ _ ht))
          have hd1 := kind_map (hk0.trans hkd)
          rw [hd1] at hu
          obtain ⟨d2, hu2, hk2, _⟩ := entry_spec (hT.all.get (hS _ _ hj))
          have hko : keyOk (kindOf d2) kv = true := by rw [hk2]; exact hb
          obtain ⟨hisk, hpl⟩ := isKey_of hko
          have e2 := h4.key hpl
          rw [e2] at h3
          have hs : Sat w K ((b', .map ms.toArray es.length) :: (C' ++ L)) := by simpa using hw.perm (hp.append_right L)
          have hh := hs.owned _ (List.mem_cons_self ..)
          split at h
          · rename_i u hf
            cases h
            obtain ⟨jj, u', hfn, hru⟩ := (findD_R (off := 0) hko hent hf).2 _ rfl
            refine ⟨if ok then .tuple #[u', .bool true] else u', fun d ty pos af g => ?_, ?_, rfl⟩
            · simp only [execOp, ha.ev h1, ha.ev h3, Sem.run_bind, Instr.lookup, underlying_run hu, Result.andThen_ok, MapKept.run_getObj_map hh, Sem.run_pure, MapKept.run_checkKey hu2 hisk, MapKept.run_findKey hu2 hfn]
            · cases ok with
              | true => exact .tup (l := [u, .bool true]) (m := [u', .bool true]) (.cons hru (.cons (.s (.plain rfl)) .nil))
              | false => exact .c hru
          · rename_i hf
            split at h
            · rename_i z hz
              cases h
              have hfn := (findD_R (off := 0) hko hent hf).1 rfl
              obtain ⟨hzr, hzp⟩ := hzt _ _ hz
              refine ⟨if ok then .tuple #[z, .bool false] else z, fun d ty pos af g => ?_, ?_, rfl⟩
              · simp only [execOp, ha.ev h1, ha.ev h3, Sem.run_bind, Instr.lookup, underlying_run hu, Result.andThen_ok, MapKept.run_getObj_map hh, Sem.run_pure, MapKept.run_checkKey hu2 hisk, MapKept.run_findKey hu2 hfn, hzr]
              · cases ok with
                | true => exact .tup (l := [z, .bool false]) (m := [z, .bool false]) (.cons (.refl hzp) (.cons (.s (.plain rfl)) .nil))
                | false => exact .c (.refl hzp)
            · cases h
          · cases h
      · cases h
    · cases h
  · cases h
end
end Go.Ev
