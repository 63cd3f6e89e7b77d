/- HeapApart: what it reckons is true. -/
import Derived.Test.YtgaldjnnfkdohaaHx
import Derived.Test.YtgaldjnnfkdohaaPureHeap
set_option linter.unusedVariables false
set_option linter.unusedSimpArgs false
namespace Go.Proofs.Ytgaldjnnfkdohaa
open Go Go.Fw

theorem w32_eq {x : Int} (h1 : -2147483648 ≤ x) (h2 : x ≤ 2147483647) : w32 x = x := by
  unfold w32 IntKind.wrap
  simp only [IntKind.bits, IntKind.signed]
  have e1 : (2 : Int) ^ 32 = 4294967296 := by decide
  have e2 : (2 : Int) ^ (32 - 1) = 2147483648 := by decide
  simp only [e1, e2]
  split
  · rename_i h; simp only [Bool.and_eq_true, decide_eq_true_eq, ge_iff_le] at h; omega
  · rename_i h; simp only [Bool.and_eq_true, decide_eq_true_eq, ge_iff_le, not_and, true_implies] at h; omega

/-- a heap of arrays -/
def Hr (rows : List (List heap_Value)) (used : Int) : heap_Heap := ⟨rows.map (heap_thing.mk ⟨#[]⟩), used, 1000⟩
def DD (y : Int) : Nat := (Int.tmod y 6).toNat
abbrev ref (j : Nat) : heap_Value := ⟨0, ByteArray.empty, (j : Int) + 1⟩
def refs (n : Nat) : List heap_Value := (List.range n).map ref
def VV (p5 : Int) (j c : Nat) : heap_Value := ⟨w32 (p5 + (w32 (w64 ((w64 (10 * (j : Int))) + (c : Int))))), ByteArray.empty, 0⟩

theorem refs_get {n j : Nat} (h : j < n) : (refs n)[j]? = some (ref j) := by simp [refs, h]
theorem refs_len {n : Nat} : (refs n).length = n := by simp [refs]

structure OkH (rows : List (List heap_Value)) (used : Int) : Prop where
  u : used ≤ 1000
  l : (rows.length : Int) ≤ used
theorem OkH.hi {rows : List (List heap_Value)} {used : Int} (h : OkH rows used) : HI (Hr rows used) := ⟨by simp [Hr], by have := h.l; simp [Hr]; omega, by have := h.u; simp [Hr]; omega, by have := h.l; simp [Hr]; omega⟩

theorem Hr_get {rows : List (List heap_Value)} {used : Int} {j : Nat} {row : List heap_Value} (h : rows[j]? = some row) : tget (Hr rows used).l_ (ref j).Ref = ⟨⟨#[]⟩, row⟩ := by
  unfold tget Hr
  simp only
  rw [if_pos (by omega), show ((j : Int) + 1 - 1).toNat = j by omega]
  simp [h]

theorem Hr_set {rows : List (List heap_Value)} {used : Int} {j : Nat} {row : List heap_Value} (h : j < rows.length) : tset (Hr rows used) (ref j).Ref ⟨⟨#[]⟩, row⟩ = Hr (rows.set j row) used := by
  unfold tset Hr
  simp only [List.length_map]
  rw [if_pos ⟨by omega, by omega⟩, show ((j : Int) + 1 - 1).toNat = j by omega, List.map_set]

theorem apart_l0 (fu : Nat) (l : List Int) (hw : ∀ y ∈ l, 0 ≤ y ∧ y ≤ 255) (hlen : l.length ≤ 30) : ∀ (k : Nat) (i : Nat) (used : Int), OkH ((l.take i).map fun y => List.replicate (DD y) v0) used → used ≤ 6 * (i : Int) → i ≤ l.length → l.length - i < k →
    Ok (LRp (fun s => ∃ used, OkH (l.map fun y => List.replicate (DD y) v0) used ∧ s = ((Hr (l.map fun y => List.replicate (DD y) v0) used).l_, used, 1000, refs l.length)) (fun r => r = true))
      (bonsailaw15_HeapApart.l0 fu l k (Hr ((l.take i).map fun y => List.replicate (DD y) v0) used).l_ used 1000 (refs i) (i : Int)) := by
  intro k
  induction k with
  | zero => intro i used _ _ _ hk; omega
  | succ k ih =>
    intro i used ho hu hle hk
    unfold bonsailaw15_HeapApart.l0
    rcases Nat.lt_or_ge i l.length with hlt | hge
    · have e1 : decide ((i : Int) < (l.length : Int)) = true := by simp; omega
      have hx := hw _ (List.getElem_mem hlt)
      rw [e1, idx_nat, List.getElem?_eq_getElem hlt]
      have hn := tmod_nn (a := l[i]) (b := 6) hx.1 (by decide)
      simp only [obs, ctr]
      rw [w32_eq (x := Int.tmod l[i] 6) (by omega) (by omega), w64s (x := (i : Int) + 1) (by omega) (by omega)]
      have e0 : (heap_Heap.mk (Hr ((l.take i).map fun y => List.replicate (DD y) v0) used).l_ used 1000) = Hr ((l.take i).map fun y => List.replicate (DD y) v0) used := rfl
      have hlen2 : (((Hr ((l.take i).map fun y => List.replicate (DD y) v0) used).l_.length : Nat) : Int) = (i : Int) := by simp [Hr]; omega
      rw [e0, Array_yes ho.hi hn.1 (by show used + _ < 1000; omega), hlen2]
      simp only [obs, Bool.not_true, cfl]
      rw [refs_len, roomy_of (by omega)]
      simp only [guardB, ctr]
      have e2 : (refs i) ++ [(⟨0, ByteArray.empty, (i : Int) + 1⟩ : heap_Value)] = refs (i + 1) := by simp [refs, List.range_succ]
      have e3 : hadd (Hr ((l.take i).map fun y => List.replicate (DD y) v0) used) ⟨#[]⟩ (Int.tmod l[i] 6) = Hr ((l.take (i + 1)).map fun y => List.replicate (DD y) v0) (used + (Int.tmod l[i] 6 + 1)) := by
        unfold hadd Hr
        simp only [List.take_succ_eq_append_getElem hlt, List.map_append, List.map_cons, List.map_nil, DD]
      rw [e2, e3]
      refine ih (i + 1) (used + (Int.tmod l[i] 6 + 1)) ⟨by omega, ?_⟩ (by omega) (by omega) (by omega)
      have := ho.l
      simp only [List.length_map, List.length_take] at this ⊢
      omega
    · have e1 : decide ((i : Int) < (l.length : Int)) = false := by simp; omega
      have e : i = l.length := by omega
      subst e
      rw [e1]
      simp only [List.take_length] at ho ⊢
      exact ⟨_, rfl, used, ho, rfl⟩

/-- rows that are set up to a place -/
structure INV (l : List Int) (p5 : Int) (rows : List (List heap_Value)) (i c : Nat) : Prop where
  len : rows.length = l.length
  row : ∀ j (hj : j < l.length), ∃ row, rows[j]? = some row ∧ row.length = DD l[j] ∧ ∀ q, q < DD l[j] → row[q]? = some (if j < i ∨ (j = i ∧ q < c) then VV p5 j q else v0)

theorem apart_l2 (fu : Nat) (l : List Int) (hw : ∀ y ∈ l, 0 ≤ y ∧ y ≤ 255) (hlen : l.length ≤ 30) (p5 : Int) (s : (List heap_thing) × Int × Int × (List heap_Value)) (hs : s.2.2.2 = refs l.length) (used : Int) (i : Nat) (hi : i < l.length) :
    ∀ (k : Nat) (rows : List (List heap_Value)) (c : Nat), OkH rows used → INV l p5 rows i c → c ≤ DD l[i] → DD l[i] - c < k →
    Ok (LRp (fun t => ∃ rows, OkH rows used ∧ INV l p5 rows (i + 1) 0 ∧ t = ((Hr rows used).l_, used, 1000)) (LRp (fun _ => False) (fun r => r = true)))
      (bonsailaw15_HeapApart.l2 fu p5 s (i : Int) k (Hr rows used).l_ used 1000 (c : Int)) := by
  intro k
  induction k with
  | zero => intro rows c _ _ _ hk; omega
  | succ k ih =>
    intro rows c ho hv hle hk
    obtain ⟨row, hr1, hr2, hr3⟩ := hv.row i hi
    have hx := hw _ (List.getElem_mem hi)
    have hn := tmod_nn (a := l[i]) (b := 6) hx.1 (by decide)
    have hD : DD l[i] ≤ 5 := by unfold DD; omega
    unfold bonsailaw15_HeapApart.l2
    rw [hs, idx_nat, refs_get hi]
    simp only [obs]
    have e0 : (heap_Heap.mk (Hr rows used).l_ used 1000) = Hr rows used := rfl
    rw [e0, Len_eq ho.hi, Hr_get hr1, obs, w64s (x := (c : Int) + 1) (by omega) (by omega)]
    simp only [hr2]
    rcases Nat.lt_or_ge c (DD l[i]) with hlt | hge
    · have e1 : decide ((c : Int) < ((DD l[i] : Nat) : Int)) = true := by simp; omega
      rw [e1, ctr, Put_in ho.hi (ref i) _ (Int.natCast_nonneg c) (by rw [Hr_get hr1]; simp [hr2]; omega), Hr_get hr1, obs]
      simp only [Int.toNat_natCast, Bool.not_true, cfl]
      rw [Hr_set (by rw [hv.len]; exact hi)]
      refine ih (rows.set i (row.set c _)) (c + 1) ⟨ho.u, by simpa using ho.l⟩ ⟨by simpa using hv.len, fun j hj => ?_⟩ (by omega) (by omega)
      by_cases e : j = i
      · subst e
        refine ⟨_, List.getElem?_set_self (by rw [hv.len]; exact hi), by simpa using hr2, fun q hq => ?_⟩
        by_cases e2 : q = c
        · subst e2
          rw [List.getElem?_set_self (by omega), if_pos (.inr ⟨rfl, by omega⟩)]; rfl
        · rw [List.getElem?_set_ne (by omega), hr3 q hq]
          by_cases h1 : j < j ∨ (j = j ∧ q < c)
          · rw [if_pos h1, if_pos (by omega)]
          · rw [if_neg h1, if_neg (by omega)]
      · obtain ⟨row2, g1, g2, g3⟩ := hv.row j hj
        refine ⟨row2, by rw [List.getElem?_set_ne (by omega)]; exact g1, g2, fun q hq => ?_⟩
        rw [g3 q hq]
        by_cases h1 : j < i ∨ (j = i ∧ q < c)
        · rw [if_pos h1, if_pos (by omega)]
        · rw [if_neg h1, if_neg (by omega)]
    · have e1 : decide ((c : Int) < ((DD l[i] : Nat) : Int)) = false := by simp; omega
      rw [e1, cfl]
      refine ⟨_, rfl, rows, ho, ⟨hv.len, fun j hj => ?_⟩, rfl⟩
      obtain ⟨row2, g1, g2, g3⟩ := hv.row j hj
      refine ⟨row2, g1, g2, fun q hq => ?_⟩
      rw [g3 q hq]
      by_cases h1 : j < i ∨ (j = i ∧ q < c)
      · rw [if_pos h1, if_pos (by omega)]
      · rw [if_neg h1, if_neg (fun h2 => h1 (by
          rcases h2 with h2 | h2
          · by_cases e : j = i
            · subst e; exact .inr ⟨rfl, by omega⟩
            · exact .inl (by omega)
          · omega))]

theorem apart_l1 (l : List Int) (hw : ∀ y ∈ l, 0 ≤ y ∧ y ≤ 255) (hlen : l.length ≤ 30) (p5 : Int) (s : (List heap_thing) × Int × Int × (List heap_Value)) (hs : s.2.2.2 = refs l.length) (used : Int) :
    ∀ (k : Nat) (rows : List (List heap_Value)) (i : Nat), OkH rows used → INV l p5 rows i 0 → i ≤ l.length → l.length - i < k →
    Ok (LRp (fun t => ∃ rows, OkH rows used ∧ INV l p5 rows l.length 0 ∧ t = ((Hr rows used).l_, used, 1000)) (fun r => r = true))
      (bonsailaw15_HeapApart.l1 100 p5 s k (Hr rows used).l_ used 1000 (i : Int)) := by
  intro k
  induction k with
  | zero => intro rows i _ _ _ hk; omega
  | succ k ih =>
    intro rows i ho hv hle hk
    unfold bonsailaw15_HeapApart.l1
    rw [hs, refs_len, w64s (x := (i : Int) + 1) (by omega) (by omega)]
    rcases Nat.lt_or_ge i l.length with hlt | hge
    · have e1 : decide ((i : Int) < (l.length : Int)) = true := by simp; omega
      have hx := hw _ (List.getElem_mem hlt)
      have hn := tmod_nn (a := l[i]) (b := 6) hx.1 (by decide)
      have hD : DD l[i] ≤ 5 := by unfold DD; omega
      rw [e1, ctr]
      refine Ok.lthen ((apart_l2 100 l hw hlen p5 s hs used i hlt 100 rows 0 ho hv (by omega) (by omega)).mono fun v hv => ?_) (fun t ht => ?_) (S := fun t => ∃ rows, OkH rows used ∧ INV l p5 rows (i + 1) 0 ∧ t = ((Hr rows used).l_, used, 1000))
      · cases v with
        | brk t => exact hv
        | ret r => cases r with
          | brk t => exact hv.elim
          | ret r => exact hv
      · obtain ⟨rows2, ho2, hv2, rfl⟩ := ht
        exact ih rows2 (i + 1) ho2 hv2 (by omega) (by omega)
    · have e1 : decide ((i : Int) < (l.length : Int)) = false := by simp; omega
      have e : i = l.length := by omega
      subst e
      rw [e1]
      exact ⟨_, rfl, rows, ho, hv, rfl⟩

theorem emptyS : (ByteArray.empty.toList == (⟨#[]⟩ : ByteArray).toList) = true := beq_self_eq_true ByteArray.empty.toList

theorem apart_l4 (fu : Nat) (l : List Int) (hw : ∀ y ∈ l, 0 ≤ y ∧ y ≤ 255) (hlen : l.length ≤ 30) (p5 : Int) (s : (List heap_thing) × Int × Int × (List heap_Value)) (hs : s.2.2.2 = refs l.length) (used : Int) (i : Nat) (hi : i < l.length)
    (rows : List (List heap_Value)) (ho : OkH rows used) (hv : INV l p5 rows l.length 0) :
    ∀ (k : Nat) (c : Nat), c ≤ DD l[i] → DD l[i] - c < k →
    Ok (LRp (fun t => t = ((Hr rows used).l_, used, 1000)) (LRp (fun _ => False) (fun r => r = true)))
      (bonsailaw15_HeapApart.l4 fu p5 s (i : Int) k (Hr rows used).l_ used 1000 (c : Int)) := by
  intro k
  induction k with
  | zero => intro c _ hk; omega
  | succ k ih =>
    intro c hle hk
    obtain ⟨row, hr1, hr2, hr3⟩ := hv.row i hi
    have hx := hw _ (List.getElem_mem hi)
    have hn := tmod_nn (a := l[i]) (b := 6) hx.1 (by decide)
    have hD : DD l[i] ≤ 5 := by unfold DD; omega
    unfold bonsailaw15_HeapApart.l4
    rw [hs, idx_nat, refs_get hi]
    simp only [obs]
    have e0 : (heap_Heap.mk (Hr rows used).l_ used 1000) = Hr rows used := rfl
    rw [e0, Len_eq ho.hi, Hr_get hr1, obs, w64s (x := (c : Int) + 1) (by omega) (by omega)]
    simp only [hr2]
    rcases Nat.lt_or_ge c (DD l[i]) with hlt | hge
    · have e1 : decide ((c : Int) < ((DD l[i] : Nat) : Int)) = true := by simp; omega
      have h5 := hr3 c hlt
      rw [if_pos (.inl hi)] at h5
      rw [e1, ctr, Get_in (u := VV p5 i c) ho.hi (ref i) (Int.natCast_nonneg c) (by rw [Hr_get hr1]; exact h5), obs]
      have e2 : ((VV p5 i c).N != (w32 (p5 + (w32 (w64 ((w64 (10 * (i : Int))) + (c : Int))))))) = false := by simp [VV]
      have e3 : ((VV p5 i c).S.toList == (⟨#[]⟩ : ByteArray).toList) = true := emptyS
      have e4 : ((VV p5 i c).Ref != 0) = false := by simp [VV]
      simp only [Bool.not_true, cfl, obs, e2, e3, e4]
      exact ih (c + 1) (by omega) (by omega)
    · have e1 : decide ((c : Int) < ((DD l[i] : Nat) : Int)) = false := by simp; omega
      rw [e1, cfl]
      exact ⟨_, rfl, rfl⟩

theorem apart_l3 (l : List Int) (hw : ∀ y ∈ l, 0 ≤ y ∧ y ≤ 255) (hlen : l.length ≤ 30) (p5 : Int) (s : (List heap_thing) × Int × Int × (List heap_Value)) (hs : s.2.2.2 = refs l.length) (used : Int)
    (rows : List (List heap_Value)) (ho : OkH rows used) (hv : INV l p5 rows l.length 0) :
    ∀ (k : Nat) (i : Nat), i ≤ l.length → l.length - i < k →
    Ok (LRp (fun t => t = ((Hr rows used).l_, used, 1000)) (fun r => r = true))
      (bonsailaw15_HeapApart.l3 100 p5 s k (Hr rows used).l_ used 1000 (i : Int)) := by
  intro k
  induction k with
  | zero => intro i _ hk; omega
  | succ k ih =>
    intro i hle hk
    unfold bonsailaw15_HeapApart.l3
    rw [hs, refs_len, w64s (x := (i : Int) + 1) (by omega) (by omega)]
    rcases Nat.lt_or_ge i l.length with hlt | hge
    · have e1 : decide ((i : Int) < (l.length : Int)) = true := by simp; omega
      have hx := hw _ (List.getElem_mem hlt)
      have hn := tmod_nn (a := l[i]) (b := 6) hx.1 (by decide)
      have hD : DD l[i] ≤ 5 := by unfold DD; omega
      obtain ⟨row, hr1, hr2, hr3⟩ := hv.row i hlt
      rw [e1, ctr]
      refine Ok.lthen ((apart_l4 100 l hw hlen p5 s hs used i hlt rows ho hv 100 0 (by omega) (by omega)).mono fun v hv => ?_) (fun t ht => ?_) (S := fun t => t = ((Hr rows used).l_, used, 1000))
      · cases v with
        | brk t => exact hv
        | ret r => cases r with
          | brk t => exact hv.elim
          | ret r => exact hv
      · subst ht
        have e0 : (heap_Heap.mk (Hr rows used).l_ used 1000) = Hr rows used := rfl
        rw [idx_nat, refs_get hlt]
        simp only [obs]
        rw [e0, Len_eq ho.hi, Hr_get hr1, obs]
        simp only
        rw [Put_out ho.hi (ref i) _ (.inr (by rw [Hr_get hr1]; exact Int.le_refl _)), obs]
        simp only [cfl]
        rw [Put_out ho.hi (ref i) _ (.inl (by decide)), obs]
        simp only [obs, cfl]
        exact ih (i + 1) (by omega) (by omega)
    · have e1 : decide ((i : Int) < (l.length : Int)) = false := by simp; omega
      rw [e1]
      exact ⟨_, rfl, rfl⟩

theorem new1000 : heap_New.fn 1000 = some ⟨[], 0, 1000⟩ := by unfold heap_New.fn; simp

theorem bonsailaw15_HeapApart_true (l : List Int) (hl : l.length ≤ maxLen) (hw : ∀ y ∈ l, (Lit.int .u8 y).wf = true) (p5 : Int) (w5 : (Lit.int .i32 p5).wf = true) : ∃ fu, bonsailaw15_HeapApart.fn fu l p5 = some true := by
  refine ⟨100, ?_⟩
  unfold bonsailaw15_HeapApart.fn
  rw [known_true]
  simp only [obs, Bool.not_true, cfl]
  by_cases h30 : (l.length : Int) > 30
  · simp [h30]
  · have e : decide ((l.length : Int) > 30) = false := by simp; omega
    rw [e, cfl, obs]
    by_cases h0 : l = []
    · subst h0; simp
    · have hpos : 0 < l.length := List.length_pos_iff.2 h0
      have e2 : ((l.length : Int) == 0) = false := by simp [h0]
      have hw' : ∀ y ∈ l, 0 ≤ y ∧ y ≤ 255 := fun y hy => u8_bounds (hw y hy)
      rw [e2, cfl, new1000, obs]
      refine Ok.eq ?_
      refine Ok.lthen (apart_l0 100 l hw' (by omega) 100 0 0 ⟨by decide, by simp⟩ (by omega) (by omega) (by omega)) (fun s hs => ?_)
      obtain ⟨used, ho, rfl⟩ := hs
      refine Ok.lthen (apart_l1 l hw' (by omega) p5 _ rfl used 100 (l.map fun y => List.replicate (DD y) v0) 0 ho ⟨by simp, fun j hj => ⟨List.replicate (DD l[j]) v0, by simp [hj], by simp, fun q hq => by simp [hq]⟩⟩ (by omega) (by omega)) (fun s hs => ?_)
      obtain ⟨rows, ho, hv, rfl⟩ := hs
      refine Ok.lthen (apart_l3 l hw' (by omega) p5 _ rfl used rows ho hv 100 0 (by omega) (by omega)) (fun s hs => ?_)
      subst hs
      obtain ⟨row, hr1, _, _⟩ := hv.row 0 hpos
      simp only
      rw [show (0 : Int) = ((0 : Nat) : Int) from rfl, idx_nat, refs_get hpos, obs]
      have e0 : (heap_Heap.mk (Hr rows used).l_ used 1000) = Hr rows used := rfl
      rw [e0, Class_eq ho.hi, obs, Hr_get hr1]
      simp only [beq_self_eq_true, ctr]
      rw [Len_eq ho.hi, obs, obs]
      exact ⟨_, rfl, rfl⟩
end Go.Proofs.Ytgaldjnnfkdohaa
