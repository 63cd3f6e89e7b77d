/- A deterministic evaluator: texts out of rows of bytes. -/
import Derived.Test.YtheedjgpfpghbaaGreatDY
set_option linter.unusedVariables false
set_option linter.unusedSectionVars false
set_option linter.unusedSimpArgs false
namespace Go.Ev
open Go Go.Fw
variable [Sym]
section
variable {P : Program} {T : Tab} {ρ : Rho} {tab : Nat → Option TI} {eqs : Nat → Option (List TK)} {zt : Nat → Option Value} {e : Operand → Option Value} {σ : Slots} {v : Value} {N : Nat} {a : Act} {w : World} {K : KM} {L : Chunks} {M M' : Mem}
  {call : Nat → List Value → Mem → Option (Value × Mem)}

theorem liesAt_off {e : TypeId} (hc : P.cellsOf e = 1) (count off n : Nat) (hn : off + n ≤ count) : liesAt P P.depth e count off e n = true := by
  have hd : P.depth = (2 * (P.types.size + Made.depth) + 1) + 1 := rfl
  rw [hd]
  simp only [liesAt, Bool.or_eq_true]
  left
  rw [hd]
  simp [rowAt, hc, hn, sameLayout, Nat.mod_one]

theorem text_run (pt it ty e : TypeId) (hp : P.underlying pt = some (.pointer e)) (hc : P.cellsOf e = 1) (g off cells : Nat) (hsh : w.shape? g = some (e, cells)) (l : List UInt8) (h0 : l.length ≠ 0) (hn : off + l.length ≤ cells) (h63 : l.length ≤ 9223372036854775807)
    (hcell : ∀ j x, l[j]? = some x → w.cell? ((⟨g, off, none⟩ : Addr).add j) = some (.int .u8 x.toNat)) :
    (Builtin.unsafeString_ #[pt, it] ty #[.pointer (some ⟨g, off, none⟩), .int .i64 l.length]).run P w = .ok (.string ⟨l.toArray⟩) (w.freeze ⟨g, off, none⟩ l.length) := by
  have hlb := Lib.run_loadBytes (P := P) w l ⟨g, off, none⟩ .empty hcell
  have hlies := liesAt_off (P := P) hc (cells / P.cellsOf e) off l.length (by rw [hc]; simpa using hn)
  have h63' : ¬ (9223372036854775807 : Int) < (l.length : Int) := by omega
  have hdef : Builtin.unsafeString_ #[pt, it] ty #[.pointer (some ⟨g, off, none⟩), .int .i64 l.length] =
      (do
        let n ← asInt (.int .i64 l.length)
        if n < 0 then runtimePanic (.error "unsafe.String: len out of range")
        if n > IntKind.i64.max then unsupported (.unsafePointer "String: a length above the largest int")
        if n = 0 then pure (.string .empty)
        else if ← variablesAt ⟨g, off, none⟩ (← elemOf pt) n.toNat then do
          let s ← loadBytes ⟨g, off, none⟩ .empty n.toNat
          freeze ⟨g, off, none⟩ n.toNat
          pure (.string s)
        else unsupported (.unsafePointer "String: not so many bytes at ptr")) := rfl
  rw [hdef]
  have hmax : IntKind.i64.max = 9223372036854775807 := rfl
  have hneg : ¬ (l.length : Int) < 0 := by omega
  have hl0 : l ≠ [] := by intro h; exact h0 (by rw [h]; rfl)
  simp [asInt, asIntOf, hmax, h63', hneg, hl0, variablesAt, hsh, elemOf, run_underlying hp, hlies, hlb]

theorem bytesOf_R : ∀ {l l' : List Value} {bs : List UInt8}, bytesOf l = some bs → All2 (RS ρ) l l' → bs.length = l.length ∧ ∀ (j : Nat) (x : UInt8), bs[j]? = some x → l'[j]? = some (Value.int .u8 x.toNat)
  | [], _, bs, h, hr => by cases hr; cases h; exact ⟨rfl, fun j x hx => by simp at hx⟩
  | y :: l, _, bs, h, hr => by
    cases hr with
    | @cons _ y' _ l' hy hr =>
    unfold bytesOf at h
    split at h
    · rename_i heq; cases heq
    · rename_i k r heq
      cases heq
      cases hb : Nat.blt k 256 with
      | false => rw [hb] at h; cases h
      | true =>
        rw [hb] at h
        simp only [cond_true] at h
        have hk : k < 256 := by simpa using hb
        split at h
        · rename_i q hq
          cases h
          obtain ⟨h1, h2⟩ := bytesOf_R hq hr
          refine ⟨by simp [h1], fun j x hx => ?_⟩
          cases j with
          | zero =>
            simp at hx; subst hx
            have : y' = .int .u8 (.ofNat k) := by cases hy; rfl
            subst this
            have e9 : (UInt8.ofNat k).toNat = k := by simp [Nat.mod_eq_of_lt hk]
            simp only [List.getElem?_cons_zero, e9]; rfl
          | succ j => simpa using h2 j x (by simpa using hx)
        · cases h
    · cases h

theorem opm_text [hT : TabC P T] {args : Array Operand} {ts : Array TypeId} (hlim : M.nx < 1000000) (hS : SubT tab T) (ha : Fits N a σ) (hE : EvR ρ e σ) (hW : World.Is w K L ρ M) (h : opm tab zt call (.call ⟨.builtin .unsafeString, args, ts⟩) e M = some (v, M')) : MRun P a (.call ⟨.builtin .unsafeString, args, ts⟩) w K L ρ M v M' := by
  simp only [opm, opmLoad, opmStore, opmBuildSlice, opmMakeSlice, opmUpdate, opmInsert, opmLookup, opmAppend, opmClear, opmCopy, opmText] at h
  split at h
  · rename_i x y pt it hxs hts
    have ea : args = #[x, y] := by apply Array.ext'; simpa using hxs
    have et0 : ts = #[pt, it] := by apply Array.ext'; simpa using hts
    subst ea; subst et0
    split at h
    · rename_i n hx hy
      cases hn : Nat.beq n 0 with
      | false => rw [hn] at h; cases h
      | true =>
        rw [hn] at h
        cases h
        have hn := Nat.eq_of_beq_eq_true hn
        subst hn
        obtain ⟨u1, h1, h2⟩ := hE _ _ hx
        obtain ⟨u2, h3, h4⟩ := hE _ _ hy
        rw [h2.nilp] at h1
        rw [h4.int] at h3
        have hr : ∀ ty, (Builtin.unsafeString_ #[pt, it] ty #[.pointer none, .int .i64 0]).run P w = .ok (.string .empty) w := fun ty => Lib.run_unsafeString_none w pt it ty none
        refine ⟨.string .empty, w, ρ, fun d ty pos af g => ?_, .same (Nat.le_refl _), .c (.s (.plain rfl)), hW⟩
        have h3' : ev σ y = some (.int .i64 0) := h3
        simp only [execOp, resolve, invoke, builtin, Sem.run_bind, Sem.run_pure, Result.andThen_ok, List.map_toArray, List.map_cons, List.map_nil, ha.ev h1, ha.ev h3', hr]
    · rename_i b o n hx hy
      split at h
      · rename_i cs u opn et s2 s3 s4 s5 s6 s7 s8 s9 s0 hb ht
        split at h
        · rename_i i l hi hl
          cases hq : ((Nat.beq u et && Nat.beq i.size 1) && ((Nat.ble (o + n) cs.length && Nat.ble n 16777216) && !(Nat.beq n 0))) with
          | false => rw [hq] at h; cases h
          | true =>
            rw [hq] at h
            cases h
            simp only [Bool.and_eq_true, Bool.not_eq_true'] at hq
            obtain ⟨⟨hq1, hq2⟩, ⟨hq3, hq4⟩, hq5⟩ := hq
            have hq1 := Nat.eq_of_beq_eq_true hq1
            subst hq1
            have hq2 := Nat.eq_of_beq_eq_true hq2
            have hq3 := Nat.le_of_ble_eq_true hq3
            have hq4 := Nat.le_of_ble_eq_true hq4
            have hq5 := Nat.ne_of_beq_eq_false hq5
            obtain ⟨u1, h1, h2⟩ := hE _ _ hx
            obtain ⟨u2, h3, h4⟩ := hE _ _ hy
            rw [h4.int] at h3
            obtain ⟨b', s, m, hρ, rfl⟩ := h2.ptr
            obtain ⟨ids, C, hM, hw⟩ := hW
            obtain ⟨pb, Cb, idb, hpb, hbb, hrb⟩ := hM.pull hb
            cases hbb with
            | @cells _ cs' pre post _ _ b3 tot hρ3 hc htot =>
            rw [hρ] at hρ3; cases hρ3
            have hs : Sat w K ((b', Cl (pre ++ (cs' ++ post)) u) :: (Cb ++ L)) := by simpa using hw.perm (hpb.append_right L)
            have ho : w.heap[b']? = some (Cl (pre ++ (cs' ++ post)) u) := hs.owned _ (List.mem_cons_self ..)
            obtain ⟨hll, hlc⟩ := bytesOf_R hl (cut_R hc o n)
            have hln : l.length = n := by rw [hll]; exact cut_len hq3
            obtain ⟨d1, hu1, hk1, _⟩ := entry_spec (hT.all.get (hS _ _ ht))
            have := kind_pointer hk1; subst this
            obtain ⟨d2, hu2, hk2, ⟨j2, hj2, hjs2, _⟩, _⟩ := entry_spec (hT.all.get (hS _ _ hi))
            have hcell1 : P.cellsOf u = 1 := by simp [Program.cellsOf, hj2, hjs2, hq2]
            have e1 := hc.len
            have hr : ∀ ty, (Builtin.unsafeString_ #[pt, it] ty #[.pointer (some ⟨b', pre.length + o, none⟩), .int .i64 l.length]).run P w = .ok (.string ⟨l.toArray⟩) (w.freeze ⟨b', pre.length + o, none⟩ l.length) := fun ty =>
              text_run (P := P) (w := w) pt it ty u hu1 hcell1 b' (pre.length + o) (pre ++ (cs' ++ post)).length (by simp only [World.shape?, ho]; simp) l (by omega) (by simp only [List.length_append]; omega) (by omega) (fun j x hx => cells_mid ho j _ (hlc j x hx))
            rw [hln] at hr
            refine ⟨.string ⟨l.toArray⟩, w.freeze ⟨b', pre.length + o, none⟩ n, ρ, fun d ty pos af g => ?_, .same (Nat.le_refl _), .c (.s (.plain rfl)), _, _, hrb.kill hlim, ?_⟩
            · have h3' : ev σ y = some (.int .i64 (n : Int)) := h3
              simp only [execOp, resolve, invoke, builtin, Sem.run_bind, Sem.run_pure, Result.andThen_ok, List.map_toArray, List.map_cons, List.map_nil, ha.ev h1, ha.ev h3', hr]
            · have hfz : ∃ o', (w.freeze ⟨b', pre.length + o, none⟩ n).heap[b']? = some o' := by
                simp only [World.freeze, if_neg hq5, Array.getElem?_modify, if_true, ho]
                exact ⟨_, rfl⟩
              obtain ⟨o', ho'⟩ := hfz
              refine (hs.turn (w' := w.freeze ⟨b', pre.length + o, none⟩ n) (fun k hk => ?_) ho' ?_ ?_ ?_).drop
              · simp only [World.freeze, if_neg hq5, Array.getElem?_modify]
                rw [if_neg (fun e => hk e.symm)]
              · simp only [World.freeze, if_neg hq5]
              · simp only [World.freeze, if_neg hq5]
              · simp only [World.freeze, if_neg hq5]
        · cases h
      · cases h
    · cases h
  · cases h
end
end Go.Ev
