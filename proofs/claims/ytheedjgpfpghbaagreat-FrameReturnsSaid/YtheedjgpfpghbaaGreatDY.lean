/- A deterministic evaluator: clear, copy. -/
import Derived.Test.YtheedjgpfpghbaaGreatDI
set_option linter.unusedVariables false
set_option linter.unusedSectionVars false
set_option linter.unusedSimpArgs false
namespace Go.Ev
open Go Go.Fw
variable [Sym]
section
variable {P : Program} {T : Tab} {ρ : Rho} {tab : Nat → Option TI} {eqs : Nat → Option (List TK)} {zt : Nat → Option Value} {e : Operand → Option Value} {σ : Slots} {v : Value} {N : Nat} {a : Act} {w : World} {K : KM} {L : Chunks} {M M' : Mem}
  {call : Nat → List Value → Mem → Option (Value × Mem)}

/-- cells are laid into a block -/
theorem put_cells (hW : World.Is w K L ρ M) (hlim : M.nx < 1000000) {b o b' s n : Nat} {cs vs vs' : List Value} {u : TypeId} {opn : Bool} (hb : M.m.get b = some (.cells cs u opn)) (hρ : ρ b = some (b', s, n)) (hvs : All2 (RS ρ) vs vs') (hle : o + vs.length ≤ cs.length) :
    ∃ w', (storeCells ⟨b', s + o, none⟩ vs').run P w = .ok () w' ∧ World.Is w' K L ρ (M.set b (.cells (cs.take o ++ (vs ++ cs.drop (o + vs.length))) u opn)) := by
  obtain ⟨ids, C, hM, hw⟩ := hW
  obtain ⟨p, C', ids', hp, hblk, hrest⟩ := hM.pull hb
  cases hblk with
  | @cells _ cs' pre post _ _ b2 n2 hρ2 hc hn hopn =>
  have hρ0 := hρ2
  rw [hρ] at hρ2; cases hρ2
  have hs : Sat w K ((b', Cl (pre ++ (cs' ++ post)) u) :: (C' ++ L)) := by simpa using hw.perm (hp.append_right L)
  have ho := hs.owned _ (List.mem_cons_self ..)
  have e1 := hc.len
  have e2 := hvs.len
  have hr := run_storeCells_at (P := P) b' (pre.length + o) u vs' 0 (pre ++ (cs' ++ post)).toArray w ho (by simp only [List.size_toArray, List.length_append]; omega) (List.all_eq_true.1 hvs.ones)
  have e3 : ((pre ++ (cs' ++ post)).toArray.toList.take (pre.length + o + 0) ++ vs' ++ (pre ++ (cs' ++ post)).toArray.toList.drop (pre.length + o + 0 + vs'.length)) = pre ++ ((cs'.take o ++ (vs' ++ cs'.drop (o + vs.length))) ++ post) := by
    simp only [List.toList_toArray, Nat.add_zero]
    rw [List.take_append, List.take_of_length_le (by omega), Nat.add_sub_cancel_left, List.take_append_of_le_length (by omega), List.drop_append, List.drop_of_length_le (by omega : pre.length ≤ pre.length + o + vs'.length), show pre.length + o + vs'.length - pre.length = o + vs.length by omega, List.drop_append_of_le_length (by omega)]
    simp
  rw [e3] at hr
  refine ⟨_, hr, _, _, hrest.set hlim (fun _ _ h => h) hM.low (.cells (post := post) hρ0 ((hc.take o).append (hvs.append (hc.drop _))) ?_ hopn), hs.setRow⟩
  rw [← hn]
  simp only [List.length_append, List.length_take, List.length_drop]; omega

theorem zeroCells_eq {z : Value} {l : List Value} (hz : z.cells.toList = l) (hp : 0 < l.length) (n : Nat) : (Builtin.zeroCells z.cells n).toList = (List.replicate n l).flatten := by
  have e : z.cells = l.toArray := by apply Array.ext'; rw [hz]
  rw [e, ← zeros_made hp n]
  simp [Builtin.zeroCells, madeCells]

theorem opm_clear [hT : TabC P T] {args : Array Operand} {ts : Array TypeId} (hlim : M.nx < 1000000) (hS : SubT tab T) (hz : ∀ t i, tab t = some i → i.ezero.all plainV = true) (ha : Fits N a σ) (hE : EvR ρ e σ) (hW : World.Is w K L ρ M) (h : opm tab zt call (.call ⟨.builtin .clear, args, ts⟩) e M = some (v, M')) : MRun P a (.call ⟨.builtin .clear, args, ts⟩) w K L ρ M v M' := by
  simp only [opm, opmLoad, opmStore, opmBuildSlice, opmMakeSlice, opmUpdate, opmInsert, opmLookup, opmAppend, opmClear] at h
  split at h
  · rename_i x t hxs hts
    have ea : args = #[x] := by apply Array.ext'; simpa using hxs
    have et0 : ts = #[t] := by apply Array.ext'; simpa using hts
    subst ea; subst et0
    split at h
    · rename_i p n c i hx ht
      obtain ⟨u1, h1, h2⟩ := hE _ _ hx
      have fin : ∀ {u w'}, (Builtin.clear_ #[t] 0 #[u1]).run P w = .ok u w' → ∀ d ty pos af g, (execOp a.eval ⟨d, .call ⟨.builtin .clear, #[x], #[t]⟩, ty, pos, af, g⟩).run P w = .ok (.value u) w' := fun hr d ty pos af g => by
        have hr' : (Builtin.clear_ #[t] ty #[u1]).run P w = .ok _ _ := hr
        simp only [execOp, resolve, invoke, builtin, Sem.run_bind, Sem.run_pure, Result.andThen_ok, List.map_toArray, List.map_cons, List.map_nil, ha.ev h1, hr']
      split at h
      · rename_i et hk
        obtain ⟨d0, hu, hk0, _, _, _, he⟩ := entry_spec (hT.all.get (hS _ _ ht))
        have hd1 := kind_slice (hk0.trans hk)
        rw [hd1] at hu
        obtain ⟨⟨j, hj, hjs, hjb, z, hz1, hzz⟩, _⟩ := he et (by rw [hk]; rfl)
        cases hn : Nat.beq n 0 with
        | true =>
          rw [hn] at h
          cases h
          have hn := Nat.eq_of_beq_eq_true hn
          subst hn
          obtain ⟨p', c', rfl, _⟩ := h2.slLe
          refine ⟨.tuple #[], w, ρ, fin ?_, .same (Nat.le_refl _), .tup .nil, hW⟩
          cases p' <;> simp [Builtin.clear_, run_underlying hu]
        | false =>
          rw [hn] at h
          simp only [cond_false] at h
          split at h
          · rename_i b o
            split at h
            · rename_i cs u opn hb
              cases hq : ((Nat.beq i.ezero.length i.esize && Nat.blt 0 i.esize) && Nat.ble (o + n * i.esize) cs.length) with
              | false => rw [hq] at h; cases h
              | true =>
                rw [hq] at h
                cases h
                simp only [Bool.and_eq_true] at hq
                obtain ⟨⟨hez, hep⟩, hle⟩ := hq
                have hez := Nat.eq_of_beq_eq_true hez
                have hep : 0 < i.esize := by simpa using hep
                have hle := Nat.le_of_ble_eq_true hle
                obtain ⟨b', o', c', rfl, _, hlk⟩ := h2.sl
                rcases hlk with h0 | ⟨s, m, hρ, rfl⟩
                · subst h0; cases hn
                · have hfl : (List.replicate n i.ezero).flatten.length = n * i.esize := by simp [hez]
                  obtain ⟨w', hr, hW'⟩ := put_cells (P := P) hW hlim hb hρ (zeros_R (ρ := ρ) (hz _ _ ht) n) (o := o) (by rw [hfl]; exact hle)
                  have hzc := zeroCells_eq hzz (by omega) n
                  have hn0 : n ≠ 0 := by intro h0; subst h0; cases hn
                  refine ⟨.tuple #[], w', ρ, fin ?_, .same (Nat.le_refl _), .tup .nil, hW'⟩
                  have hzv : (zeroValue et).run P w = .ok z w := by simp [zeroValue, typeInfo, hj, hz1]
                  obtain ⟨k, rfl⟩ : ∃ k, n = k + 1 := ⟨n - 1, by omega⟩
                  simp [Builtin.clear_, run_underlying hu, hzv, hzc, hr]
            · cases h
          · cases h
      · cases h
    · cases h
  · cases h

theorem opm_copy [hT : TabC P T] {args : Array Operand} {ts : Array TypeId} (hlim : M.nx < 1000000) (hS : SubT tab T) (ha : Fits N a σ) (hE : EvR ρ e σ) (hW : World.Is w K L ρ M) (h : opm tab zt call (.call ⟨.builtin .copy, args, ts⟩) e M = some (v, M')) : MRun P a (.call ⟨.builtin .copy, args, ts⟩) w K L ρ M v M' := by
  simp only [opm, opmLoad, opmStore, opmBuildSlice, opmMakeSlice, opmUpdate, opmInsert, opmLookup, opmAppend, opmCopy] at h
  split at h
  · rename_i x y t t' hxs hts
    have ea : args = #[x, y] := by apply Array.ext'; simpa using hxs
    have et0 : ts = #[t, t'] := by apply Array.ext'; simpa using hts
    subst ea; subst et0
    split at h
    · rename_i p n c q m d i hx hy ht
      obtain ⟨u1, h1, h2⟩ := hE _ _ hx
      obtain ⟨u2, h3, h4⟩ := hE _ _ hy
      have fin : ∀ {u w'}, (Builtin.copy_ #[t, t'] 0 #[u1, u2]).run P w = .ok u w' → ∀ d ty pos af g, (execOp a.eval ⟨d, .call ⟨.builtin .copy, #[x, y], #[t, t']⟩, ty, pos, af, g⟩).run P w = .ok (.value u) w' := fun hr d ty pos af g => by
        have hr' : (Builtin.copy_ #[t, t'] ty #[u1, u2]).run P w = .ok _ _ := hr
        simp only [execOp, resolve, invoke, builtin, Sem.run_bind, Sem.run_pure, Result.andThen_ok, List.map_toArray, List.map_cons, List.map_nil, ha.ev h1, ha.ev h3, hr']
      split at h
      · rename_i et hk
        obtain ⟨d0, hu, hk0, _, _, _, he⟩ := entry_spec (hT.all.get (hS _ _ ht))
        have hd1 := kind_slice (hk0.trans hk)
        rw [hd1] at hu
        obtain ⟨⟨j, hj, hjs, hjb, z, hz1, hzz⟩, _⟩ := he et (by rw [hk]; rfl)
        have hl0 : ∀ (x : Addr), (loadCells x 0).run P w = .ok #[] w := fun x => by simpa using run_loadCells_list (P := P) w x [] (by simp)
        cases hn : Nat.beq (Nat.min m n) 0 with
        | true =>
          rw [hn] at h
          cases h
          have hn := Nat.eq_of_beq_eq_true hn
          obtain ⟨p', c', rfl, _⟩ := h2.slLe
          obtain ⟨q', d', rfl, _⟩ := h4.slLe
          refine ⟨.int .i64 0, w, ρ, fin ?_, .same (Nat.le_refl _), .c (.s (.plain rfl)), hW⟩
          cases p' <;> cases q' <;> simp [Builtin.copy_, run_underlying hu, Builtin.lenOf, Builtin.firstCells, sizeOf, typeInfo, hj, hn, storeCells, hl0, goInt]
        | false =>
          rw [hn] at h
          simp only [cond_false] at h
          split at h
          · rename_i b o b2 o2
            split at h
            · rename_i cs u opn cs2 u2' opn2 hb hb2
              cases hq : (Nat.ble (o + Nat.min m n * i.esize) cs.length && Nat.ble (o2 + Nat.min m n * i.esize) cs2.length) with
              | false => rw [hq] at h; cases h
              | true =>
                rw [hq] at h
                cases h
                simp only [Bool.and_eq_true] at hq
                have hq1 := Nat.le_of_ble_eq_true hq.1
                have hq2 := Nat.le_of_ble_eq_true hq.2
                have hmin : Nat.min m n ≠ 0 := Nat.ne_of_beq_eq_false hn
                obtain ⟨b', o', c', rfl, _, hlk⟩ := h2.sl
                obtain ⟨b2', o2', c2', rfl, _, hlk2⟩ := h4.sl
                have hn0 : n ≠ 0 := by intro h0; subst h0; exact hmin (by simp)
                have hm0 : m ≠ 0 := by intro h0; subst h0; exact hmin (by simp)
                rcases hlk with h0 | ⟨s, k, hρ, rfl⟩
                · exact absurd h0 hn0
                rcases hlk2 with h0 | ⟨s2, k2, hρ2, rfl⟩
                · exact absurd h0 hm0
                have hW0 := hW
                obtain ⟨ids, C, hM, hw⟩ := hW
                obtain ⟨pb, Cb, idb, hpb, hbb, hrb⟩ := hM.pull hb2
                cases hbb with
                | @cells _ cs2' pre post _ _ b3 tot hρ3 hc htot =>
                rw [hρ2] at hρ3; cases hρ3
                have hs : Sat w K ((b2', Cl (pre ++ (cs2' ++ post)) u2') :: (Cb ++ L)) := by simpa using hw.perm (hpb.append_right L)
                have hcut := cut_R hc o2 (Nat.min m n * i.esize)
                have hcl : (cut cs2 o2 (Nat.min m n * i.esize)).length = Nat.min m n * i.esize := cut_len hq2
                obtain ⟨w', hr, hW'⟩ := put_cells (P := P) hW0 hlim hb hρ hcut (o := o) (by rw [hcl]; exact hq1)
                have hld := run_loadCells_list (P := P) w ⟨b2', pre.length + o2, none⟩ (cut cs2' o2 (Nat.min m n * i.esize)) (cells_mid (hs.owned _ (List.mem_cons_self ..)))
                have hcl' : (cut cs2' o2 (Nat.min m n * i.esize)).length = Nat.min m n * j.size := by rw [← hcut.len, hcl, hjs]
                rw [hcl'] at hld
                refine ⟨.int .i64 (Int.ofNat (Nat.min m n)), w', ρ, fin ?_, .same (Nat.le_refl _), .c (.s (.plain rfl)), hW'⟩
                simp only [Builtin.copy_, List.getElem?_toArray, List.getElem?_cons_zero, List.getElem?_cons_succ, Sem.run_bind, run_underlying hu, Result.andThen_ok, Builtin.lenOf, Builtin.firstCells, sizeOf, typeInfo, run_program, hj, Sem.run_pure, hld, hr, goInt]
                rfl
            · cases h
          · cases h
      · cases h
    · cases h
  · cases h
end
end Go.Ev
