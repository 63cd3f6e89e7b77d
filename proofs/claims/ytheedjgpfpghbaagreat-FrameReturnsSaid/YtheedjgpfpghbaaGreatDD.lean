/- A deterministic evaluator: the other operations that only reckon; all of them. -/
import Derived.Test.YtheedjgpfpghbaaGreatDC
import Derived.Lib.UnsafeStr
set_option linter.unusedVariables false
set_option linter.unusedSectionVars false
set_option linter.unusedSimpArgs false
namespace Go.Ev
open Go Go.Fw
variable [Sym]
section
variable {P : Program} {T : Tab} {ρ : Rho} {tab : Nat → Option TI} {eqs : Nat → Option (List TK)} {e : Operand → Option Value} {σ : Slots} {v : Value} {N : Nat} {a : Act}

theorem opw_index [hT : TabC P T] {t : TypeId} {x y : Operand} (hS : SubT tab T) (ha : Fits N a σ) (hE : EvR ρ e σ) (h : opw tab eqs (.index t x y) e = some v) : ∃ v', RunsTo P a (.index t x y) v' ∧ RV ρ v v' := by
  simp only [opw, opwBin, opwConvert, opwFieldAddr, opwField, opwIndex, opwIndexAddr, opwBuild, opwSlice, opwLen, opwCap, opwData, opwMax, opwMin] at h
  split at h
  · rename_i cs k i n ee s1 s2 s3 s4 s5 es s6 s7 s8 hx hy ht
    obtain ⟨u1, h1, h2⟩ := hE _ _ hx
    obtain ⟨u2, h3, h4⟩ := hE _ _ hy
    obtain ⟨m, rfl, h5⟩ := h2.agg
    rw [ofNat_int h4] at h3
    cases hb : (Nat.blt i n && Nat.blt 0 es) with
    | false => rw [hb] at h; cases h
    | true =>
      rw [hb] at h
      simp only [cond_true] at h
      obtain ⟨z, h6, h7⟩ := partOf_R h5 h
      refine of_opv ha ⟨z, ?_, h7⟩
      simp only [opv, h1, h3, hS _ _ ht]
      show (bif (Nat.blt i n && Nat.blt 0 es) then _ else _) = _
      rw [hb]; exact h6
  · rename_i s k i s1 s2 s3 s4 s5 es s6 s7 s8 hx hy hi'
    obtain ⟨u1, h1, h2⟩ := hE _ _ hx
    obtain ⟨u2, h3, h4⟩ := hE _ _ hy
    rw [h2.string] at h1
    rw [ofNat_int h4] at h3
    split at h
    · rename_i c hc
      cases h
      obtain ⟨d1, hd, hk1, _⟩ := entry_spec (hT.all.get (hS _ _ hi'))
      have := kind_string hk1; subst this
      refine ⟨.int .u8 c.toNat, fun d ty pos af g w => ?_, .c (.s (.plain rfl))⟩
      obtain ⟨hlt, hce⟩ := List.getElem?_eq_some_iff.1 hc
      have hlt2 : i < s.size := hlt
      have hse : s[i]? = some c := by
        rw [getElem?_pos s i hlt2]
        congr 1
      simp [execOp, ha.ev h1, ha.ev h3, Instr.index, asIntOf, underlying_run hd, hse]
    · cases h
  · cases h

theorem evA_R (hE : EvR ρ e σ) : ∀ {l : List (Nat × Operand)} {r : List (Nat × Value)}, opw.evA e l = some r → ∃ r', evAll σ l = some r' ∧ All2 (fun p q : Nat × Value => p.1 = q.1 ∧ RV ρ p.2 q.2) r r'
  | [], r, h => by cases h; exact ⟨[], rfl, .nil⟩
  | (i, x) :: l, r, h => by
    simp only [opw.evA] at h
    split at h
    · rename_i u q hu hq
      cases h
      obtain ⟨u', h1, h2⟩ := hE _ _ hu
      obtain ⟨q', h3, h4⟩ := evA_R hE hq
      exact ⟨(i, u') :: q', by simp only [evAll, h1, h3], .cons ⟨rfl, h2⟩ h4⟩
    · cases h

theorem RV.cells {u u' : Value} (h : RV ρ u u') (hs : storable u = true) : All2 (RS ρ) u.cells.toList u'.cells.toList := by
  cases h with
  | tup h => cases hs
  | c h => cases h with
    | agg h => exact h
    | s h => cases h with
      | plain h =>
        have : u.cells.toList = [u] := by cases u <;> first | rfl | (simp [plainV] at h)
        rw [this]; exact .cons (.plain h) .nil
      | ptr h => exact .cons (.ptr h) .nil
      | sl h hc hn hm => exact .cons (.sl h hc hn hm) .nil
      | slu h ht hn hm => exact .cons (.slu h ht hn hm) .nil
      | slz => exact .cons .slz .nil
      | map h => exact .cons (.map h) .nil
      | sym h hp =>
        have : u'.cells.toList = [u'] := by cases u' <;> first | rfl | (simp [plainV] at hp)
        rw [this]; exact .cons (.sym h hp) .nil
      | any hc =>
        have : u'.cells.toList = [u'] := by cases u' <;> first | rfl | (simp [cellV] at hc)
        rw [this]; exact .cons (.any hc) .nil
      | fn h => exact .cons (.fn h) .nil

theorem plains_R {l : List Value} (h : l.all plainV = true) : All2 (RS ρ) l l := by
  induction l with
  | nil => exact .nil
  | cons x r ih =>
    simp only [List.all_cons, Bool.and_eq_true] at h
    exact .cons (.plain h.1) (ih h.2)

theorem lay_R {fs : List (Nat × Nat × Bool)} : ∀ {l l' : List (Nat × Value)} {cs cs' r : List Value}, All2 (fun p q : Nat × Value => p.1 = q.1 ∧ RV ρ p.2 q.2) l l' → l.all (fun p => storable p.2) = true → All2 (RS ρ) cs cs' → lay fs cs l = some r →
    ∃ r', lay fs cs' l' = some r' ∧ All2 (RS ρ) r r'
  | [], l', cs, cs', r, hl, _, hc, h => by cases hl; cases h; exact ⟨cs', rfl, hc⟩
  | (i, u) :: l, l', cs, cs', r, hl, hs, hc, h => by
    cases hl with
    | @cons _ q _ m hq hm =>
    obtain ⟨j, u'⟩ := q
    obtain ⟨rfl, hu⟩ := hq
    simp only [List.all_cons, Bool.and_eq_true] at hs
    have hcell := hu.cells hs.1
    simp only [lay] at h ⊢
    split at h
    · cases h
    · cases h
    · rename_i off size ag hf
      have e1 : u.cells.toList.length = u'.cells.toList.length := hcell.len
      have e2 := hc.len
      rw [← e1, ← e2]
      cases hb : (Nat.beq u.cells.toList.length (size + 1) && Nat.ble (off + (size + 1)) cs.length) with
      | false => rw [hb] at h; cases h
      | true =>
        rw [hb] at h
        simp only [cond_true] at h ⊢
        exact lay_R hm hs.2 ((hc.take off).append (hcell.append (hc.drop _))) h

theorem opw_build [hT : TabC P T] {t : TypeId} {parts : Array (Nat × Operand)} (hS : SubT tab T) (hz : ∀ t i, tab t = some i → i.zero.all plainV = true) (ha : Fits N a σ) (hE : EvR ρ e σ) (h : opw tab eqs (.build t parts) e = some v) : ∃ v', RunsTo P a (.build t parts) v' ∧ RV ρ v v' := by
  simp only [opw, opwBin, opwConvert, opwFieldAddr, opwField, opwIndex, opwIndexAddr, opwBuild, opwSlice, opwLen, opwCap, opwData, opwMax, opwMin] at h
  split at h
  · rename_i s1 s2 zero s4 fs s6 s7 s8 s9 l ht hl
    split at h
    · rename_i cs hcs
      cases h
      cases hb : (l.all (fun p => storable p.2) && fs.all (fun f => !Nat.beq f.2.1 0)) with
      | false => rw [hb] at hcs; cases hcs
      | true =>
        rw [hb] at hcs
        simp only [cond_true] at hcs
        simp only [Bool.and_eq_true] at hb
        obtain ⟨r', h1, h2⟩ := evA_R hE hl
        obtain ⟨cs', h3, h4⟩ := lay_R h2 hb.1 (plains_R (ρ := ρ) (hz _ _ ht)) hcs
        refine of_opv ha ⟨.agg cs'.toArray, ?_, .c (.agg h4)⟩
        simp only [opv, hS _ _ ht, h1]
        rw [hb.2]
        simp only [cond_true]
        rw [h3]
    · cases h
  · rename_i n et s2 s3 zero s5 s6 s7 s8 s9 s10 ht hl
    cases h
    obtain ⟨r', h1, h2⟩ := evA_R hE hl
    cases h2
    have h1' := evAll_spec ha _ _ h1
    have e : (parts.map fun (i, x) => (i, a.eval x)) = #[] := by apply Array.ext'; simpa using h1'
    obtain ⟨d0, hu, hk0, ⟨j, hj, hjs, hjb, z, hz1, hzz⟩, _, _, he⟩ := entry_spec (hT.all.get (hS _ _ ht))
    have hd1 := kind_array hk0
    rw [hd1] at hu
    obtain ⟨⟨j2, hj2, _⟩, _⟩ := he et rfl
    have ez : z.cells = zero.toArray := by apply Array.ext'; rw [hzz]
    refine ⟨.agg zero.toArray, fun d ty pos af g w => ?_, .c (.agg (plains_R (hz _ _ ht)))⟩
    simp only [execOp, e, Sem.run_bind]
    simp [Instr.build, zeroValue, typeInfo, hj, hz1, underlying_run hu, sizeOf, hj2, Instr.fill, ez]
  · cases h

theorem opw_slices [hT : TabC P T] {t : TypeId} {x : Operand} {lo hi : Option Operand} (hS : SubT tab T) (ha : Fits N a σ) (hE : EvR ρ e σ) (h : opw tab eqs (.slice t x lo hi none) e = some v) :
    ∃ v', RunsTo P a (.slice t x lo hi none) v' ∧ RV ρ v v' := by
  cases hx : e x with
  | none => simp only [opw, opwBin, opwConvert, opwFieldAddr, opwField, opwIndex, opwIndexAddr, opwBuild, opwSlice, opwLen, opwCap, opwData, opwMax, opwMin, hx] at h; cases h
  | some u =>
    cases u with
    | slice p n c => exact opw_slice hS ha hE hx h
    | string s =>
      simp only [opw, opwBin, opwConvert, opwFieldAddr, opwField, opwIndex, opwIndexAddr, opwBuild, opwSlice, opwLen, opwCap, opwData, opwMax, opwMin, hx] at h
      split at h
      · rename_i l hh s1 s2 s3 s4 s5 es s6 s7 s8 hlo hhi ht
        cases hb : (Nat.ble l hh && Nat.ble hh s.data.toList.length) with
        | false => rw [hb] at h; cases h
        | true =>
          rw [hb] at h
          simp only [cond_true, Option.some.injEq] at h
          subst h
          simp only [Bool.and_eq_true] at hb
          have hb1 := Nat.le_of_ble_eq_true hb.1
          have hb2 : hh ≤ s.size := Nat.le_of_ble_eq_true hb.2
          obtain ⟨u, h1, h2⟩ := hE _ _ hx
          rw [h2.string] at h1
          have hl' := bnd_R hE hlo
          have hh' := bnd_R hE hhi
          obtain ⟨d1, hd, hk1, _⟩ := entry_spec (hT.all.get (hS _ _ ht))
          have := kind_string hk1; subst this
          have hex : (⟨((s.data.toList.drop l).take (hh - l)).toArray⟩ : ByteArray) = s.extract l hh := by
            apply ByteArray.ext
            rw [ByteArray.data_extract]
            apply Array.ext'
            simp [List.extract_eq_take_drop]
          refine ⟨.string (s.extract l hh), fun d ty pos af g w => ?_, by rw [hex]; exact .c (.s (.plain rfl))⟩
          cases lo with
          | none =>
            have hlo : (l : Int) = 0 := hl'
            have hl0 : l = 0 := by omega
            subst hl0
            cases hi with
            | none =>
              have hhi : (hh : Int) = (s.data.toList.length : Int) := hh'
              have : hh = s.size := by have : hh = s.data.toList.length := by omega
                                       exact this
              subst this
              simp [execOp, ha.ev h1, Instr.sliceAt, Instr.slice, underlying_run hd, Instr.sliceBounds]
            | some y =>
              obtain ⟨k, hy⟩ := hh'
              simp [execOp, ha.ev h1, ha.ev hy, Instr.sliceAt, Instr.slice, underlying_run hd, Instr.sliceBounds, Instr.sliceBound, asIntOf, hb2]
          | some q =>
            obtain ⟨kq, hq⟩ := hl'
            cases hi with
            | none =>
              have hhi : (hh : Int) = (s.data.toList.length : Int) := hh'
              have : hh = s.size := by have : hh = s.data.toList.length := by omega
                                       exact this
              subst this
              simp [execOp, ha.ev h1, ha.ev hq, Instr.sliceAt, Instr.slice, underlying_run hd, Instr.sliceBounds, Instr.sliceBound, asIntOf, hb1]
            | some y =>
              obtain ⟨k, hy⟩ := hh'
              simp [execOp, ha.ev h1, ha.ev hy, ha.ev hq, Instr.sliceAt, Instr.slice, underlying_run hd, Instr.sliceBounds, Instr.sliceBound, asIntOf, hb1, hb2]
      · cases h
    | _ => simp only [opw, opwBin, opwConvert, opwFieldAddr, opwField, opwIndex, opwIndexAddr, opwBuild, opwSlice, opwLen, opwCap, opwData, opwMax, opwMin, hx] at h; cases h

theorem RV.slAny {p : Option Addr} {n c : Nat} {u : Value} (h : RV ρ (.slice p n c) u) : ∃ p' c', u = .slice p' n c' := by
  cases h with | c h => cases h with | s h => cases h with
    | plain h => exact ⟨_, _, rfl⟩
    | sl h hc hn hm => exact ⟨_, _, rfl⟩
    | slu h ht hn hm => exact ⟨_, _, rfl⟩
    | slz => exact ⟨_, _, rfl⟩

theorem opw_call [hT : TabC P T] {c : Call} (hS : SubT tab T) (ha : Fits N a σ) (hE : EvR ρ e σ) (h : opw tab eqs (.call c) e = some v) : ∃ v', RunsTo P a (.call c) v' ∧ RV ρ v v' := by
  obtain ⟨cal, args, ts⟩ := c
  cases cal with
  | value f => simp only [opw, opwBin, opwConvert, opwFieldAddr, opwField, opwIndex, opwIndexAddr, opwBuild, opwSlice, opwLen, opwCap, opwData, opwMax, opwMin] at h; cases h
  | invoke r m => simp only [opw, opwBin, opwConvert, opwFieldAddr, opwField, opwIndex, opwIndexAddr, opwBuild, opwSlice, opwLen, opwCap, opwData, opwMax, opwMin] at h; cases h
  | builtin b =>
    cases b with
    | len =>
      simp only [opw, opwBin, opwConvert, opwFieldAddr, opwField, opwIndex, opwIndexAddr, opwBuild, opwSlice, opwLen, opwCap, opwData, opwMax, opwMin] at h
      split at h
      · rename_i x t hxs hts
        split at h
        · rename_i p n c s1 s2 s3 s4 s5 s6 s7 s8 s9 s0 hx ht
          cases h
          obtain ⟨u, h1, h2⟩ := hE _ _ hx
          obtain ⟨p', c', rfl⟩ := h2.slAny
          exact of_opv ha ⟨_, by simp only [opv, hxs, hts, h1, hS _ _ ht], .c (.s (.plain rfl))⟩
        · rename_i s s2 s3 s4 s5 s6 s7 s8 s9 s0 hx ht
          cases h
          obtain ⟨u, h1, h2⟩ := hE _ _ hx
          rw [h2.string] at h1
          exact of_opv ha ⟨_, by simp only [opv, hxs, hts, h1, hS _ _ ht]; rfl, .c (.s (.plain rfl))⟩
        · cases h
      · cases h
    | cap =>
      simp only [opw, opwBin, opwConvert, opwFieldAddr, opwField, opwIndex, opwIndexAddr, opwBuild, opwSlice, opwLen, opwCap, opwData, opwMax, opwMin] at h
      split at h
      · rename_i x t hxs hts
        have ea : args = #[x] := by apply Array.ext'; simpa using hxs
        have et0 : ts = #[t] := by apply Array.ext'; simpa using hts
        subst ea; subst et0
        split at h
        · rename_i p n c s1 s2 s3 s4 s5 s6 s7 s8 s9 s0 hx ht
          cases hu : Nat.ble unk c with
          | true => rw [hu] at h; cases h
          | false =>
            rw [hu] at h
            cases h
            obtain ⟨u, h1, h2⟩ := hE _ _ hx
            obtain ⟨p', rfl⟩ : ∃ p', u = .slice p' n c := by
              cases h2 with | c h => cases h with | s h => cases h with
                | plain h => exact ⟨_, rfl⟩
                | sl h hc hn hm => exact ⟨_, rfl⟩
                | slu h ht hn hm => rw [Nat.ble_eq_true_of_le (Nat.le_add_right _ _)] at hu; cases hu
                | slz => rw [Nat.ble_eq_true_of_le (Nat.le_add_right _ _)] at hu; cases hu
            obtain ⟨d1, hd, hk1, _⟩ := entry_spec (hT.all.get (hS _ _ ht))
            have := kind_slice hk1; subst this
            refine ⟨.int .i64 c, fun d ty pos af g w => ?_, .c (.s (.plain rfl))⟩
            simp [execOp, resolve, invoke, builtin, Builtin.cap_, ha.ev h1, underlying_run hd, goInt]
        · cases h
      · cases h
    | unsafeSliceData =>
      simp only [opw, opwBin, opwConvert, opwFieldAddr, opwField, opwIndex, opwIndexAddr, opwBuild, opwSlice, opwLen, opwCap, opwData, opwMax, opwMin] at h
      split at h
      · rename_i x hxs
        have ea : args = #[x] := by apply Array.ext'; simpa using hxs
        subst ea
        split at h
        · rename_i b o n c hx
          cases hn : Nat.beq n 0 with
          | true => rw [hn] at h; cases h
          | false =>
            rw [hn] at h
            cases h
            have hn := Nat.ne_of_beq_eq_false hn
            obtain ⟨u, h1, h2⟩ := hE _ _ hx
            obtain ⟨b', o', c', rfl, hnc, hlk⟩ := h2.sl
            rcases hlk with h0 | ⟨s, m, hρ, rfl⟩
            · exact absurd h0 hn
            · refine ⟨.pointer (some ⟨b', s + o, none⟩), fun d ty pos af g w => ?_, .c (.s (.ptr hρ))⟩
              have := Lib.run_unsafeSliceData_row (P := P) w ts ty ⟨b', s + o, none⟩ n c' (by omega)
              simp [execOp, resolve, invoke, builtin, ha.ev h1, this]
        · rename_i hx
          cases h
          obtain ⟨u, h1, h2⟩ := hE _ _ hx
          have hu : u = .slice none 0 0 := by
            cases h2 with | c h => cases h with | s h => cases h; rfl
          subst hu
          refine ⟨.pointer none, fun d ty pos af g w => ?_, .c (.s (.plain rfl))⟩
          have := Lib.run_unsafeSliceData_nil (P := P) w ts ty 0 0
          simp [execOp, resolve, invoke, builtin, ha.ev h1, this]
        · cases h
      · cases h
    | max =>
      simp only [opw, opwBin, opwConvert, opwFieldAddr, opwField, opwIndex, opwIndexAddr, opwBuild, opwSlice, opwLen, opwCap, opwData, opwMax, opwMin] at h
      split at h
      · rename_i x y hxs
        split at h
        · rename_i k p k' q hx hy
          cases h
          obtain ⟨u, h1, h2⟩ := hE _ _ hx
          obtain ⟨u', h3, h4⟩ := hE _ _ hy
          rw [h2.int] at h1; rw [h4.int] at h3
          exact of_opv ha ⟨_, by simp only [opv, hxs, h1, h3], .c (.s (.plain rfl))⟩
        · cases h
      · cases h
    | min =>
      simp only [opw, opwBin, opwConvert, opwFieldAddr, opwField, opwIndex, opwIndexAddr, opwBuild, opwSlice, opwLen, opwCap, opwData, opwMax, opwMin] at h
      split at h
      · rename_i x y hxs
        split at h
        · rename_i k p k' q hx hy
          cases h
          obtain ⟨u, h1, h2⟩ := hE _ _ hx
          obtain ⟨u', h3, h4⟩ := hE _ _ hy
          rw [h2.int] at h1; rw [h4.int] at h3
          exact of_opv ha ⟨_, by simp only [opv, hxs, h1, h3], .c (.s (.plain rfl))⟩
        · cases h
      · cases h
    | _ => simp only [opw, opwBin, opwConvert, opwFieldAddr, opwField, opwIndex, opwIndexAddr, opwBuild, opwSlice, opwLen, opwCap, opwData, opwMax, opwMin] at h; cases h

/-- what only reckons comes to what it is told to come to -/
theorem opw_sound [hT : TabC P T] {op : Op} (hSy : SymOk) (hS : SubT tab T) (hq : ∀ t ks, eqs t = some ks → EqT P t ks) (hz : ∀ t i, tab t = some i → i.zero.all plainV = true) (ha : Fits N a σ) (hE : EvR ρ e σ) (h : opw tab eqs op e = some v) : ∃ v', RunsTo P a op v' ∧ RV ρ v v' := by
  cases op with
  | move x => exact of_opv ha (opw_move (tab := tab) (eqs := eqs) hE h)
  | assign x => exact of_opv ha (opw_assign (tab := tab) (eqs := eqs) hE h)
  | pick c x y => exact of_opv ha (opw_pick (tab := tab) (eqs := eqs) hE h)
  | nilCheck x => exact of_opv ha (opw_nilCheck (tab := tab) (eqs := eqs) hE h)
  | binOp o t x y t' => exact opw_bin hSy hS hq ha hE h
  | unOp o t x =>
    cases o with
    | not => exact of_opv ha (opw_not (tab := tab) (eqs := eqs) hE h)
    | neg => exact of_opv ha (opw_neg (tab := tab) (eqs := eqs) hE h)
    | _ => simp only [opw, opwBin, opwConvert, opwFieldAddr, opwField, opwIndex, opwIndexAddr, opwBuild, opwSlice, opwLen, opwCap, opwData, opwMax, opwMin] at h; cases h
  | convert s d x => exact of_opv ha (opw_convert hSy hS hE h)
  | field s x f => exact of_opv ha (opw_field hS hE h)
  | fieldAddr s x f => exact of_opv ha (opw_fieldAddr hS hE h)
  | extract x i => exact of_opv ha (opw_extract (tab := tab) (eqs := eqs) hE h)
  | index t x y => exact opw_index hS ha hE h
  | indexAddr t x y => exact opw_indexAddr hS ha hE h
  | build t ps => exact opw_build hS hz ha hE h
  | slice t x lo hi mx =>
    cases mx with
    | none => exact opw_slices hS ha hE h
    | some m => simp only [opw, opwBin, opwConvert, opwFieldAddr, opwField, opwIndex, opwIndexAddr, opwBuild, opwSlice, opwLen, opwCap, opwData, opwMax, opwMin] at h; cases h
  | call c => exact opw_call hS ha hE h
  | _ => simp only [opw, opwBin, opwConvert, opwFieldAddr, opwField, opwIndex, opwIndexAddr, opwBuild, opwSlice, opwLen, opwCap, opwData, opwMax, opwMin] at h; cases h
end
end Go.Ev
