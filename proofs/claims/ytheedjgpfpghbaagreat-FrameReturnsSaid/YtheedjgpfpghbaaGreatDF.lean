/- A deterministic evaluator: rows. -/
import Derived.Test.YtheedjgpfpghbaaGreatDE
set_option linter.unusedVariables false
set_option linter.unusedSectionVars false
set_option linter.unusedSimpArgs false
namespace Go.Ev
open Go Go.Fw
variable [Sym]
section
variable {P : Program} {T : Tab} {ρ : Rho} {tab : Nat → Option TI} {eqs : Nat → Option (List TK)} {zt : Nat → Option Value} {e : Operand → Option Value} {σ : Slots} {v : Value} {N : Nat} {a : Act} {w : World} {K : KM} {L : Chunks} {M M' : Mem}
  {call : Nat → List Value → Mem → Option (Value × Mem)}

theorem bs_run [hT : TabC P T] {t : TypeId} {i : TI} {et : TypeId} {n : Nat} {parts : Array (Nat × Operand)} {vs : List (Nat × Value)} {cs : List Value} (ht : tk T t = some i) (hd : i.kind = .slice et)
    (hv : evAll σ parts.toList = some vs) (hsm : n * i.esize ≤ 16777216) (hc : Instr.fill (fun q => some (q * i.esize, i.esize)) (madeCells i.ezero.toArray (n * i.esize)) vs = some cs.toArray) (ha : Fits N a σ) :
    ∀ d ty pos af g, (execOp a.eval ⟨d, .buildSlice t n parts, ty, pos, af, g⟩).run P w = .ok (.value (.slice (some ⟨w.heap.size, 0, none⟩) n n)) (w.alloc (Cl cs et)) := by
  intro d ty pos af g
  obtain ⟨d0, hu, hk0, _, _, _, he⟩ := entry_spec (hT.all.get ht)
  have hd1 := kind_slice (hk0.trans hd)
  rw [hd1] at hu
  obtain ⟨⟨j, hj, hjs, hjb, z, hz, hzz⟩, _⟩ := he et (by rw [hd]; rfl)
  have ez : z.cells = i.ezero.toArray := by rw [← hzz]
  have h1 := evAll_spec ha _ _ hv
  have e1 : (parts.map fun (q, x) => (q, a.eval x)) = vs.toArray := by
    rw [← h1]; apply Array.ext'; simp
  have hrun : (Instr.buildSlice t n vs.toArray).run P w = .ok (.slice (some ⟨w.heap.size, 0, none⟩) n n) (w.alloc (Cl cs et)) := by
    unfold Instr.buildSlice
    simp only [Sem.run_bind, underlying_run hu, Result.andThen_ok, sizeOf, typeInfo, run_program, hj, Sem.run_pure, hjs]
    rw [if_neg (by omega)]
    by_cases hn : n * i.esize = 0
    · simp only [hn, if_true, Sem.run_bind, Sem.run_pure, Result.andThen_ok]
      rw [hn] at hc
      simp only [madeCells] at hc
      simp only [Array.range_zero'] at hc ⊢
      simp at hc
      simp [hc, newRow]
    · simp only [hn, if_false, Sem.run_bind, Result.andThen_ok, zeroValue, typeInfo, run_program, hj, Sem.run_pure, hz]
      simp only [madeCells, ← ez] at hc
      simp [hc, newRow]
  simp only [execOp, e1, Sem.run_bind, hrun, Result.andThen_ok, Sem.run_pure]

theorem catE_R {es : Nat} : ∀ {l l' : List (Nat × Value)} {k : Nat} {r : List Value}, All2 (fun p q : Nat × Value => p.1 = q.1 ∧ RV ρ p.2 q.2) l l' → l.all (fun p => storable p.2) = true → catE es k l = some r → ∃ r', catE es k l' = some r' ∧ All2 (RS ρ) r r'
  | [], l', k, r, hl, _, h => by cases hl; cases h; exact ⟨[], rfl, .nil⟩
  | (i, u) :: l, l', k, r, hl, hs, h => by
    cases hl with
    | @cons _ q _ m hq hm =>
    obtain ⟨j, u'⟩ := q
    obtain ⟨rfl, hu⟩ := hq
    simp only [List.all_cons, Bool.and_eq_true] at hs
    have hcell := hu.cells hs.1
    simp only [catE] at h ⊢
    have e1 : u.cells.toList.length = u'.cells.toList.length := hcell.len
    rw [← e1]
    cases hb : (Nat.beq i k && Nat.beq u.cells.toList.length es) with
    | false => rw [hb] at h; cases h
    | true =>
      rw [hb] at h
      simp only [cond_true] at h ⊢
      split at h
      · rename_i q hq
        cases h
        obtain ⟨r', h1, h2⟩ := catE_R hm hs.2 hq
        rw [h1]
        exact ⟨_, rfl, hcell.append h2⟩
      · cases h

theorem unk_small {n : Nat} (h : n ≤ 281474976710656) : Nat.ble unk n = false := by
  cases hq : Nat.ble unk n with
  | false => rfl
  | true =>
    have := Nat.le_of_ble_eq_true hq
    unfold unk at this; omega

theorem opm_buildSlice [hT : TabC P T] {t : TypeId} {n : Nat} {parts : Array (Nat × Operand)} (hlim : M.nx < 1000000) (hS : SubT tab T) (ha : Fits N a σ) (hE : EvR ρ e σ) (hW : World.Is w K L ρ M) (h : opm tab zt call (.buildSlice t n parts) e M = some (v, M')) : MRun P a (.buildSlice t n parts) w K L ρ M v M' := by
  simp only [opm, opmLoad, opmStore, opmBuildSlice, opmMakeSlice, opmUpdate, opmInsert, opmLookup, opmAppend, opmClear, opmCopy, opmText] at h
  split at h
  · rename_i i l ht hl
    split at h
    · rename_i et hk
      cases hb : ((l.all (fun p => storable p.2) && (Nat.beq i.ezero.length i.esize && Nat.blt 0 i.esize)) && (Nat.ble (n * i.esize) 16777216 && Nat.beq l.length n)) with
      | false => rw [hb] at h; cases h
      | true =>
        rw [hb] at h
        simp only [cond_true] at h
        simp only [Bool.and_eq_true] at hb
        obtain ⟨⟨hst, hez, hep⟩, hsm, hln⟩ := hb
        have hez := Nat.eq_of_beq_eq_true hez
        have hsm := Nat.le_of_ble_eq_true hsm
        have hln := Nat.eq_of_beq_eq_true hln
        have hep : 0 < i.esize := by simpa using hep
        split at h
        · rename_i cs hcs
          cases h
          obtain ⟨r', h1, h2⟩ := evA_R hE hl
          obtain ⟨cs', h3, h4⟩ := catE_R h2 hst hcs
          have hln' : r'.length = n := by rw [← h2.len, hln]
          have hlay := layE_cat i.esize r' 0 [] cs' (List.replicate n i.ezero).flatten (by simp) (by simp [hln', hez]) h3
          simp only [List.nil_append] at hlay
          have hp : 0 < i.ezero.length := by rw [hez]; exact hep
          have hfill : Instr.fill (fun q => some (q * i.esize, i.esize)) (madeCells i.ezero.toArray (n * i.esize)) r' = some cs'.toArray := by
            refine layE_fill _ _ _ _ ?_
            rw [← hez] at hlay ⊢
            rw [zeros_made hp]; exact hlay
          obtain ⟨ρ', h5, h6, h7⟩ := World.new (w' := w.alloc (Cl cs' et)) (t := et) (opn := false) (post := []) hW hlim h4 (fun C hs => by
            have := hs.alloc (Cl cs' et)
            simpa using this)
          have hnm : n ≤ 16777216 := Nat.le_trans (Nat.le_mul_of_pos_right n hep) hsm
          exact ⟨_, _, ρ', bs_run (hS _ _ ht) hk h1 hsm hfill ha, h5, .c (.s (.sl (o := 0) h6 (unk_small (by omega)) (Nat.le_refl _) (by unfold maxLen; omega))), h7⟩
        · cases h
    · cases h
  · cases h

theorem zeros_R {z : List Value} (hz : z.all plainV = true) : ∀ n, All2 (RS ρ) (List.replicate n z).flatten (List.replicate n z).flatten
  | 0 => by simp; exact .nil
  | n + 1 => by rw [List.replicate_succ, List.flatten_cons]; exact (plains_R hz).append (zeros_R hz n)

theorem opm_makeSlice [hT : TabC P T] {t : TypeId} {x y : Operand} (hlim : M.nx < 1000000) (hS : SubT tab T) (hz : ∀ t i, tab t = some i → i.ezero.all plainV = true) (ha : Fits N a σ) (hE : EvR ρ e σ) (hW : World.Is w K L ρ M) (h : opm tab zt call (.makeSlice t x y) e M = some (v, M')) : MRun P a (.makeSlice t x y) w K L ρ M v M' := by
  simp only [opm, opmLoad, opmStore, opmBuildSlice, opmMakeSlice, opmUpdate, opmInsert, opmLookup, opmAppend, opmClear, opmCopy, opmText] at h
  split at h
  · rename_i i k1 n k2 m ht hx hy
    split at h
    · rename_i et hk
      cases hb : ((Nat.beq n m && (Nat.beq i.ezero.length i.esize && Nat.blt 0 i.esize)) && (Nat.ble (i.ebytes * n) 281474976710656 && Nat.ble n 16777216)) with
      | false => rw [hb] at h; cases h
      | true =>
        rw [hb] at h
        cases h
        simp only [Bool.and_eq_true] at hb
        obtain ⟨⟨hnm, hez, hep⟩, hby, hn⟩ := hb
        have hnm := Nat.eq_of_beq_eq_true hnm
        subst hnm
        have hez := Nat.eq_of_beq_eq_true hez
        have hby := Nat.le_of_ble_eq_true hby
        have hn := Nat.le_of_ble_eq_true hn
        have hep : 0 < i.esize := by simpa using hep
        obtain ⟨u1, h1, h2⟩ := hE _ _ hx
        obtain ⟨u2, h3, h4⟩ := hE _ _ hy
        rw [ofNat_int h2] at h1; rw [ofNat_int h4] at h3
        obtain ⟨d0, hu, hk0, _, _, _, he⟩ := entry_spec (hT.all.get (hS _ _ ht))
        have hd1 := kind_slice (hk0.trans hk)
        rw [hd1] at hu
        obtain ⟨⟨j, hj, hjs, hjb, z, hz1, hzz⟩, _⟩ := he et (by rw [hk]; rfl)
        have hr := run_make (P := P) w t et j z hu hj hz1 k1 k2 (n : Int) (n : Int) (by omega) (Int.le_refl _) (by rw [hjb]; have h9 : ((i.ebytes * n : Nat) : Int) ≤ ((281474976710656 : Nat) : Int) := Int.ofNat_le.2 hby; rw [Int.natCast_mul] at h9; exact h9) (by omega)
        have ez : z.cells = i.ezero.toArray := by rw [← hzz]
        rw [ez, hjs] at hr
        have hp : 0 < i.ezero.length := by rw [hez]; exact hep
        have hcs : madeCells i.ezero.toArray ((n : Int).toNat * i.esize) = ((List.replicate n i.ezero).flatten).toArray := by
          apply Array.ext'
          rw [← hez, Int.toNat_natCast, zeros_made hp]
        rw [hcs] at hr
        obtain ⟨ρ', h5, h6, h7⟩ := World.new (w' := w.alloc (Cl (List.replicate n i.ezero).flatten et)) (t := et) (opn := false) (post := []) hW hlim (zeros_R (ρ := ρ) (hz _ _ ht) n) (fun C hs => by
          have := hs.alloc (Cl (List.replicate n i.ezero).flatten et)
          simpa using this)
        refine ⟨_, _, ρ', fun d ty pos af g => ?_, h5, .c (.s (.sl (o := 0) h6 (unk_small (by omega)) (Nat.le_refl _) (by unfold maxLen; omega))), h7⟩
        simp only [execOp, ha.ev h1, ha.ev h3, Sem.run_bind, hr, Result.andThen_ok, Sem.run_pure, Int.toNat_natCast]
    · cases h
  · cases h

theorem opm_makeMap {t : TypeId} (hlim : M.nx < 1000000) (hW : World.Is w K L ρ M) (h : opm tab zt call (.makeMap t none) e M = some (v, M')) : MRun P a (.makeMap t none) w K L ρ M v M' := by
  simp only [opm, opmLoad, opmStore, opmBuildSlice, opmMakeSlice, opmUpdate, opmInsert, opmLookup, opmAppend, opmClear, opmCopy, opmText] at h
  cases h
  obtain ⟨ids, C, hM, hs⟩ := hW
  have hle := Rho.le_with (r := (w.heap.size, 0, 0)) hM.fresh
  have hself : (ρ.with M.nx (w.heap.size, 0, 0)) M.nx = some (w.heap.size, 0, 0) := if_pos rfl
  refine ⟨.map (some w.heap.size), w.alloc (.map #[] 0), _, fun d ty pos af g => by simp [execOp, Instr.makeMap], .with (Nat.le_succ _) hM.fresh (Nat.le_refl _), .c (.s (.map hself)), _, _, hM.new hlim (.map hself .nil), ?_⟩
  exact hs.alloc (.map #[] 0)
end
end Go.Ev
