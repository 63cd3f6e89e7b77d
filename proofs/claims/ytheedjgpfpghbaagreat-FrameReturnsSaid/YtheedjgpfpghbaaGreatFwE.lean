/- A small logic of walks: slices, loops, regions that draw their order. -/
import Derived.Test.YtheedjgpfpghbaaGreatFwD
import Derived.OrdersHeld
set_option linter.unusedVariables false
set_option linter.unusedSimpArgs false
namespace Go.Fw
open Go

/-! ### rows of the call's own -/

/-- a slice of n elements of type e, size cells each, that holds the cells xs: nil, or the head of an owned block -/
def OwnR (e : TypeId) (size : Nat) (v : Value) (n : Nat) (xs : List Value) (C : Chunks) : Prop :=
  (v = .slice none 0 0 ∧ n = 0 ∧ xs = [] ∧ C = []) ∨
  ∃ b cap r, v = .slice (some ⟨b, 0, none⟩) n cap ∧ C = [(b, Cl (xs ++ r) e)] ∧ n ≤ cap ∧ cap ≤ maxLen ∧ xs.length = n * size ∧ (xs ++ r).length = cap * size

theorem OwnR.nil (e : TypeId) (size : Nat) : OwnR e size (.slice none 0 0) 0 [] [] := .inl ⟨rfl, rfl, rfl, rfl⟩

theorem OwnR.len {e : TypeId} {size : Nat} {v : Value} {n : Nat} {xs : List Value} {C : Chunks} (h : OwnR e size v n xs C) : xs.length = n * size := by
  rcases h with ⟨_, rfl, rfl, _⟩ | ⟨b, cap, r, _, _, _, _, h, _⟩
  · simp
  · exact h

section
variable {P : Program} {T : Tab} {N : Nat} {σ : Slots} {w : World} {l : List Oper} {Q : Exit → Act → World → Prop} {rest : List Oper} {g : Option (Nat × Bool)}
  {ty : TypeId} {pos : String} {af : Array Edge} {op : Op} {d : Tmp} {K : KM} {L : Chunks} {G : List Chunks}

theorem Sat.alloc_drew (h : Sat w K L) (o : Obj) : Sat (w.drew.alloc o) K ((w.heap.size, o) :: L) := Sat.alloc (w := w.drew) (Sat.drew h) o

theorem app_run [hT : TabC P T] {t ty e : TypeId} {i : TI} (ht : tk T t = some i) (hd : i.kind = .slice e) (hsz : Nat.blt 0 i.esize = true) (hez : i.ezero.length = i.esize)
    {v : Value} {n : Nat} {xs : List Value} {C R : Chunks} (hS : Sat w K (C ++ R)) (hown : OwnR e i.esize v n xs C)
    {a : Addr} {m c : Nat} {news : List Value} (hl : news.length = m * i.esize) (hnews : ∀ j u, news[j]? = some u → w.cell? (a.add j) = some u) (h1 : ∀ u ∈ news, u.oneCell' = true)
    (hb : (n + m) * i.ebytes ≤ 140737488355328) (h63 : n + m ≤ maxLen) :
    ∃ v' w' C', (Builtin.append_ #[t, t] ty #[v, .slice (some a) m c]).run P w = .ok v' w' ∧ OwnR e i.esize v' (n + m) (xs ++ news) C' ∧ Sat w' K (C' ++ R) := by
  obtain ⟨d0, hu, hk0, _, _, _, he⟩ := entry_spec (hT.all.get ht)
  have hd1 := kind_slice (hk0.trans hd)
  rw [hd1] at hu
  obtain ⟨⟨j, hj, hjs, hjb, z, hz, hzz⟩, _⟩ := he e (by rw [hd]; rfl)
  have hsmall : n + m ≤ 9223372036854775807 := by simp only [maxLen] at h63; omega
  have hpos : 0 < i.esize := by simpa using hsz
  have hzs : z.cells.size = j.size := by rw [hjs, ← hez, ← hzz]; simp
  have hxl := hown.len
  have grown : ∀ old, Sat (w.drew.alloc (.cells (xs.toArray ++ news.toArray ++ Builtin.zeroCells z.cells (grownCap w (n + m) old e - (n + m))) e)) K
      ([(w.heap.size, Cl ((xs ++ news) ++ (Builtin.zeroCells z.cells (grownCap w (n + m) old e - (n + m))).toList) e)] ++ R) ∧
      OwnR e i.esize (.slice (some ⟨w.heap.size, 0, none⟩) (n + m) (grownCap w (n + m) old e)) (n + m) (xs ++ news) [(w.heap.size, Cl ((xs ++ news) ++ (Builtin.zeroCells z.cells (grownCap w (n + m) old e - (n + m))).toList) e)] := by
    intro old
    have hge := grownCap_ge w (n + m) old e
    have hcm : grownCap w (n + m) old e ≤ maxLen := grownCap_le_maxLen w (n + m) old e h63
    refine ⟨?_, .inr ⟨w.heap.size, _, _, rfl, rfl, hge, hcm, by rw [List.length_append, hxl, hl, Nat.add_mul], ?_⟩⟩
    · have hR : Sat w K R := hS.sub (L' := R) (R := C) (List.perm_append_comm)
      have := hR.alloc_drew (.cells (xs.toArray ++ news.toArray ++ Builtin.zeroCells z.cells (grownCap w (n + m) old e - (n + m))) e)
      have e2 : (xs.toArray ++ news.toArray ++ Builtin.zeroCells z.cells (grownCap w (n + m) old e - (n + m))) = ((xs ++ news) ++ (Builtin.zeroCells z.cells (grownCap w (n + m) old e - (n + m))).toList).toArray := by
        apply Array.ext'; simp
      rw [e2] at this ⊢
      exact this
    · simp only [List.length_append, Array.length_toList, size_zeroCells, hzs, hxl, hl, hjs, ← Nat.add_mul]
      congr 1; omega
  rcases hown with ⟨rfl, rfl, rfl, rfl⟩ | ⟨b, cap, r, rfl, rfl, hnc, hcm, _, hcs⟩
  · by_cases hm : m = 0
    · subst hm
      have hn : news = [] := List.eq_nil_of_length_eq_zero (by simpa using hl)
      subst hn
      refine ⟨.slice none 0 0, w, [], ?_, OwnR.nil _ _, hS⟩
      simp [Builtin.append_, run_underlying hu, sizeOf, typeInfo, hj, Builtin.lenOf, Builtin.firstCells, loadCells, loadCellsFrom]
    · have hr := run_append_nil (P := P) w t ty e j z hu hj hz a m c news (by rw [hjs]; exact hl) hnews (by omega) (by omega) (by rw [hjb]; simp only [Nat.zero_add] at hb; omega)
      have hgr := grown 0
      simp only [Nat.zero_add, List.nil_append, Array.empty_append] at hgr hr ⊢
      exact ⟨_, _, _, hr, hgr.2, hgr.1⟩
  · have hblk := hS.owned _ (List.mem_append_left _ (List.mem_cons_self ..))
    by_cases hroom : n + m ≤ cap
    · have hfit : n * i.esize + news.length ≤ (xs ++ r).length := by rw [hl, hcs, ← Nat.add_mul]; exact Nat.mul_le_mul_right _ hroom
      have hr := run_append_room (P := P) w t ty e j hu hj b n cap (xs ++ r).toArray hblk a m c news (by rw [hjs]; exact hl) hnews h1 hroom (by rw [hjs]; simpa using hfit)
      refine ⟨_, _, [(b, Cl ((xs ++ news) ++ r.drop news.length) e)], hr, .inr ⟨b, cap, r.drop news.length, rfl, rfl, hroom, hcm, by rw [List.length_append, hxl, hl, Nat.add_mul], ?_⟩, ?_⟩
      · simp only [List.length_append, List.length_drop] at hcs hfit ⊢
        omega
      · have := Sat.setRow (cs' := (xs ++ news) ++ r.drop news.length) (show Sat w K ((b, Cl (xs ++ r) e) :: R) from hS)
        have e3 : (((xs ++ r).toArray).toList.take (n * j.size) ++ news ++ ((xs ++ r).toArray).toList.drop (n * j.size + news.length)) = ((xs ++ news) ++ r.drop news.length) := by
          rw [hjs, ← hxl]
          simp [List.drop_append]
        rw [e3]
        exact this
    · have holds : ∀ q u, xs[q]? = some u → w.cell? ((⟨b, 0, none⟩ : Addr).add q) = some u := by
        intro q u hq
        rw [add_addr]
        have hlt : q < xs.length := (List.getElem?_eq_some_iff.1 hq).1
        simp only [World.cell?, show w.heap[b]? = some (Cl (xs ++ r) e) from hblk, Nat.zero_add]
        simp [List.getElem?_append_left hlt, hq]
      have hr := run_append_grow (P := P) w t ty e j z hu hj hz ⟨b, 0, none⟩ n cap xs (by rw [hjs]; exact hxl) holds a m c news (by rw [hjs]; exact hl) hnews (by omega) (by omega) (by rw [hjb]; exact growslice_fits (by omega) hb)
      have hgr := grown cap
      exact ⟨_, _, _, hr, hgr.2, hgr.1⟩

/-- append to a row of one's own -/
theorem s_app [hT : TabC P T] {t e : TypeId} {i : TI} {x y : Operand} (k : Nat) {v : Value} {n : Nat} {xs : List Value} {C : Chunks} {b o m c : Nat} {news : List Value} (hS : Sat w K (flat G)) (hk : nthG G k = some C)
    (hown : OwnR e i.esize v n xs C) (hc : Cells w b o news) (ht : tk T t = some i) (hd : i.kind = .slice e) (hsz : Nat.blt 0 i.esize = true) (hez : i.ezero.length = i.esize)
    (hx : ev σ x = some v) (hy : ev σ y = some (.slice (some ⟨b, o, none⟩) m c)) (hl : news.length = m * i.esize) (h1 : news.all (·.oneCell') = true)
    (hb : (n + m) * i.ebytes ≤ 140737488355328) (h63 : n + m ≤ maxLen) (hg : gd l σ g = some true) (hdN : Nat.blt d N = true)
    (next : ∀ v' w' C', OwnR e i.esize v' (n + m) (xs ++ news) C' → Sat w' K (flat (setG G k C')) → Rg P l Q N rest ((d, v') :: σ) w') :
    Rg P l Q N (⟨some d, .call ⟨.builtin .append, #[x, y], #[t, t]⟩, ty, pos, af, g⟩ :: rest) σ w := by
  obtain ⟨R, hp1, hp2⟩ := nthG_perm hk
  obtain ⟨v', w', C', hr, ho', hS'⟩ := app_run (P := P) (ty := ty) ht hd hsz hez (hS.perm hp1) hown (a := ⟨b, o, none⟩) (c := c) hl (fun j u hj => by rw [add_addr]; exact hc j u (by rw [nth_eq]; exact hj)) (List.all_eq_true.1 h1) hb h63
  refine rg_value rfl hg hdN (fun a ha => ?_) (next v' w' C' ho' (hS'.perm (hp2 C').symm))
  simp only [execOp, resolve, invoke, builtin, Sem.run_bind, Sem.run_pure, Result.andThen_ok, List.map_toArray, List.map_cons, List.map_nil, ha.ev hx, ha.ev hy, hr]

/-- append of nothing -/
theorem s_app0 [hT : TabC P T] {t : TypeId} {i : TI} {x y : Operand} {a : Option Addr} {n c c' : Nat} {a' : Option Addr} (ht : tk T t = some i) (hd : (match i.kind with | .slice _ => true | _ => false) = true)
    (hx : ev σ x = some (.slice a n c)) (hnc : n ≤ c) (hy : ev σ y = some (.slice a' 0 c')) (hg : gd l σ g = some true) (hdN : Nat.blt d N = true)
    (next : Rg P l Q N rest ((d, .slice a n c) :: σ) w) : Rg P l Q N (⟨some d, .call ⟨.builtin .append, #[x, y], #[t, t]⟩, ty, pos, af, g⟩ :: rest) σ w := by
  obtain ⟨d0, hu, hk0, _, _, _, he⟩ := entry_spec (hT.all.get ht)
  split at hd
  · rename_i e hdd
    have hd1 := kind_slice (hk0.trans hdd)
    rw [hd1] at hu
    obtain ⟨⟨j, hj, hjs, hjb, z, hz, hzz⟩, _⟩ := he e (by rw [hdd]; rfl)
    refine rg_value rfl hg hdN (fun b hb => ?_) next
    have : (Builtin.append_ #[t, t] ty #[.slice a n c, .slice a' 0 c']).run P w = .ok (.slice a n c) w := by
      cases a <;> cases a' <;> simp [Builtin.append_, run_underlying hu, sizeOf, typeInfo, hj, Builtin.lenOf, Builtin.firstCells, loadCells, loadCellsFrom, hnc, storeCells]
    simp only [execOp, resolve, invoke, builtin, Sem.run_bind, Sem.run_pure, Result.andThen_ok, List.map_toArray, List.map_cons, List.map_nil, hb.ev hx, hb.ev hy, this]
  · cases hd

/-- make of a slice -/
theorem s_mk [hT : TabC P T] {t : TypeId} {i : TI} {e : TypeId} {x y : Operand} {k1 k2 : IntKind} {n m : Int} (hS : Sat w K (flat G)) (ht : tk T t = some i) (hd : i.kind = .slice e)
    (hx : ev σ x = some (.int k1 n)) (hy : ev σ y = some (.int k2 m)) (h0 : 0 ≤ n) (hnm : n ≤ m) (hb : (i.ebytes : Int) * m ≤ 281474976710656) (h63 : m ≤ 9223372036854775807) (hg : gd l σ g = some true) (hdN : Nat.blt d N = true)
    (next : ∀ b w' cs, cs = (madeCells i.ezero.toArray (m.toNat * i.esize)).toList → Sat w' K (flat ([(b, Cl cs e)] :: G)) → Rg P l Q N rest ((d, .slice (some ⟨b, 0, none⟩) n.toNat m.toNat) :: σ) w') :
    Rg P l Q N (⟨some d, .makeSlice t x y, ty, pos, af, g⟩ :: rest) σ w := by
  obtain ⟨d0, hu, hk0, _, _, _, he⟩ := entry_spec (hT.all.get ht)
  have hd1 := kind_slice (hk0.trans hd)
  rw [hd1] at hu
  obtain ⟨⟨j, hj, hjs, hjb, z, hz, hzz⟩, _⟩ := he e (by rw [hd]; rfl)
  have hr := run_make (P := P) w t e j z hu hj hz k1 k2 n m h0 hnm (by rw [hjb]; exact hb) h63
  have h := hS.alloc (.cells (madeCells z.cells (m.toNat * j.size)) e)
  have ez : z.cells = i.ezero.toArray := by rw [← hzz]
  rw [ez, hjs] at h hr
  refine rg_value rfl hg hdN (fun a ha => ?_) (next w.heap.size _ _ rfl h)
  simp only [execOp, ha.ev hx, ha.ev hy, Sem.run_bind, hr, Result.andThen_ok, Sem.run_pure]

/-- parts laid into a row, so many cells each -/
def layE (es : Nat) : List Value → List (Nat × Value) → Option (List Value)
  | cells, [] => some cells
  | cells, (i, v) :: r =>
    bif Nat.beq v.cells.toList.length es && Nat.ble (i * es + es) cells.length then
      layE es (cells.take (i * es) ++ (v.cells.toList ++ cells.drop (i * es + es))) r
    else none

theorem layE_fill (es : Nat) : ∀ (l : List (Nat × Value)) (cs : Array Value) (r : List Value), layE es cs.toList l = some r →
    Instr.fill (fun i => some (i * es, es)) cs l = some r.toArray := by
  intro l
  induction l with
  | nil => intro cs r h; simp [layE] at h; subst h; simp [Instr.fill]
  | cons p l ih =>
    obtain ⟨i, v⟩ := p
    intro cs r h
    simp only [layE] at h
    cases hb : (Nat.beq v.cells.toList.length es && Nat.ble (i * es + es) cs.toList.length) with
    | false => rw [hb] at h; cases h
    | true =>
      rw [hb] at h
      simp only [Bool.and_eq_true] at hb
      obtain ⟨h1, h2⟩ := hb
      have h1 := Nat.eq_of_beq_eq_true h1
      have h2 := Nat.le_of_ble_eq_true h2
      have h1' : v.cells.size = es := by simpa using h1
      have h2' : i * es + es ≤ cs.size := by simpa using h2
      simp only [Instr.fill]
      rw [if_neg (by simp [h1']; omega)]
      refine ih _ _ ?_
      have := lay_fold v.cells.toList cs (i * es) 0 (by simp [h1']; omega)
      simp only [Nat.add_zero] at this
      have e2 : (Array.foldl (fun cs (x : Value × Nat) => cs.setIfInBounds (i * es + x.2) x.1) cs v.cells.zipIdx).toList = cs.toList.take (i * es) ++ (v.cells.toList ++ cs.toList.drop (i * es + es)) := by
        rw [← Array.foldl_toList]
        simp only [Array.toList_zipIdx]
        rw [this, h1]
      rw [show (Array.foldl (fun cs (x : Value × Nat) => match x with | (c, j) => cs.setIfInBounds (i * es + j) c) cs v.cells.zipIdx).toList = _ from e2]
      exact h

theorem zeros_made {z : List Value} (hz : 0 < z.length) : ∀ n, (madeCells z.toArray (n * z.length)).toList = (List.replicate n z).flatten := by
  intro n
  apply List.ext_getElem?
  intro i
  by_cases hi : i < n * z.length
  · have h1 : (madeCells z.toArray (n * z.length)).toList[i]? = some (z[i % z.length]'(Nat.mod_lt _ hz)) := by
      simp [madeCells, hi, Nat.mod_lt _ hz]
    rw [h1]
    symm
    clear h1
    induction n generalizing i with
    | zero => omega
    | succ n ih =>
      rw [List.replicate_succ, List.flatten_cons]
      by_cases hlt : i < z.length
      · rw [List.getElem?_append_left hlt, List.getElem?_eq_getElem hlt]
        simp [Nat.mod_eq_of_lt hlt]
      · rw [List.getElem?_append_right (by omega)]
        rw [ih (i - z.length) (by rw [Nat.succ_mul] at hi; omega)]
        congr 2
        exact (Nat.mod_eq_sub_mod (by omega)).symm
  · rw [List.getElem?_eq_none (by simp [madeCells]; omega), List.getElem?_eq_none (by simp; omega)]

/-- a slice that is written out -/
theorem s_bs [hT : TabC P T] {t : TypeId} {i : TI} {e : TypeId} {n : Nat} {parts : List (Nat × Operand)} {vs : List (Nat × Value)} {cs : List Value} (hS : Sat w K (flat G)) (ht : tk T t = some i) (hd : i.kind = .slice e)
    (hv : evAll σ parts = some vs) (hsm : Nat.ble (n * i.esize) 16777216 = true)
    (hc : Instr.fill (fun q => some (q * i.esize, i.esize)) (madeCells i.ezero.toArray (n * i.esize)) vs = some cs.toArray) (hg : gd l σ g = some true) (hdN : Nat.blt d N = true)
    (next : ∀ b w', Sat w' K (flat ([(b, Cl cs e)] :: G)) → Rg P l Q N rest ((d, .slice (some ⟨b, 0, none⟩) n n) :: σ) w') :
    Rg P l Q N (⟨some d, .buildSlice t n parts.toArray, ty, pos, af, g⟩ :: rest) σ w := by
  obtain ⟨d0, hu, hk0, _, _, _, he⟩ := entry_spec (hT.all.get ht)
  have hd1 := kind_slice (hk0.trans hd)
  rw [hd1] at hu
  obtain ⟨⟨j, hj, hjs, hjb, z, hz, hzz⟩, _⟩ := he e (by rw [hd]; rfl)
  have ez : z.cells = i.ezero.toArray := by rw [← hzz]
  have h := hS.alloc (Cl cs e)
  have hsm' := Nat.le_of_ble_eq_true hsm
  refine rg_value (w' := w.alloc (Cl cs e)) rfl hg hdN (fun a ha => ?_) (next w.heap.size _ h)
  have h1 := evAll_spec ha _ _ hv
  have e1 : (parts.toArray.map fun (q, x) => (q, a.eval x)) = vs.toArray := by
    rw [← h1]; apply Array.ext'; simp
  have hrun : (Instr.buildSlice t n vs.toArray).run P w = .ok (.slice (some ⟨w.heap.size, 0, none⟩) n n) (w.alloc (Cl cs e)) := by
    unfold Instr.buildSlice
    simp only [Sem.run_bind, underlying_run hu, Result.andThen_ok, sizeOf, typeInfo, run_program, hj, Sem.run_pure, hjs]
    rw [if_neg (by omega)]
    by_cases hn : n * i.esize = 0
    · simp only [hn, if_true, Sem.run_bind, Sem.run_pure, Result.andThen_ok]
      rw [hn] at hc
      simp only [madeCells] at hc
      simp only [Array.range_zero'] at hc ⊢
      simp at hc
      simp [hc, newRow]
    · simp only [hn, if_false, Sem.run_bind, Result.andThen_ok, zeroValue, typeInfo, run_program, hj, Sem.run_pure, hz]
      simp only [madeCells, ← ez] at hc
      simp [hc, newRow]
  simp only [execOp, e1, Sem.run_bind, hrun, Result.andThen_ok, Sem.run_pure]

/-- a slice that is written out, by looking -/
theorem s_bw [hT : TabC P T] {t : TypeId} {i : TI} {e : TypeId} {n : Nat} {parts : List (Nat × Operand)} {vs : List (Nat × Value)} {cs : List Value} (hS : Sat w K (flat G)) (ht : tk T t = some i) (hd : i.kind = .slice e)
    (hv : evAll σ parts = some vs) (hsm : Nat.ble (n * i.esize) 16777216 = true) (hez : i.ezero.length = i.esize) (hep : Nat.blt 0 i.esize = true)
    (hc : layE i.esize (List.replicate n i.ezero).flatten vs = some cs) (hg : gd l σ g = some true) (hdN : Nat.blt d N = true)
    (next : ∀ b w', Sat w' K (flat ([(b, Cl cs e)] :: G)) → Rg P l Q N rest ((d, .slice (some ⟨b, 0, none⟩) n n) :: σ) w') :
    Rg P l Q N (⟨some d, .buildSlice t n parts.toArray, ty, pos, af, g⟩ :: rest) σ w := by
  refine s_bs hS ht hd hv hsm (layE_fill _ _ _ _ ?_) hg hdN next
  have hp : 0 < i.ezero.length := by rw [hez]; simpa using hep
  rw [← hez] at hc ⊢
  rw [zeros_made hp]
  exact hc

end
end Go.Fw
