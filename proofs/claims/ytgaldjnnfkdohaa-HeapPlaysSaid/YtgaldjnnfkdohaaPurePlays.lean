/- HeapPlays: what it reckons is true. -/
import Derived.Test.YtgaldjnnfkdohaaHp
import Derived.Test.YtgaldjnnfkdohaaPureHeap
set_option linter.unusedVariables false
set_option linter.unusedSimpArgs false
namespace Go.Proofs.Ytgaldjnnfkdohaa
open Go Go.Fw

abbrev RV := bonsairef15_Value
def toV (v : heap_Value) : bonsairef15_Value := ⟨v.N, v.S, v.Ref⟩
def toT (t : heap_thing) : bonsairef15_thing := ⟨t.class_, t.values_.map toV⟩
def toR (h : heap_Heap) : bonsairef15_Heap := ⟨h.most_, h.used_, h.l_.map toT⟩

theorem toR_mk (h : heap_Heap) : bonsairef15_Heap.mk (toR h).Most (toR h).Used (toR h).L = toR h := rfl

theorem there_eq (h : heap_Heap) (v : bonsairef15_Value) : bonsairef15_Heap_there.fn (toR h) v = some (decide (1 ≤ v.Ref ∧ v.Ref ≤ (h.l_.length : Int)), toR h) := by
  unfold bonsairef15_Heap_there.fn
  have hl : (toR h).L.length = h.l_.length := by simp [toR]
  rw [hl]
  by_cases h1 : 1 ≤ v.Ref
  · have e : decide (v.Ref ≥ 1) = true := by simp; omega
    rw [e, ctr, obs]
    by_cases h2 : v.Ref ≤ (h.l_.length : Int) <;> simp [h1, h2]
  · have e : decide (v.Ref ≥ 1) = false := by simp; omega
    rw [e, cfl, obs]
    have e2 : decide (1 ≤ v.Ref ∧ v.Ref ≤ (h.l_.length : Int)) = false := by simp; intro h3; omega
    rw [e2]

theorem there_at {h : heap_Heap} (hi : HI h) {v : bonsairef15_Value} (ht : 1 ≤ v.Ref ∧ v.Ref ≤ (h.l_.length : Int)) : idx (toR h).L (w64 (v.Ref - 1)) = some (toT (tget h.l_ v.Ref)) := by
  have hl := hi.l1
  rw [w64s (by omega) (by omega)]
  unfold idx tget
  rw [if_pos (by omega), if_pos ht.1]
  have hlt : (v.Ref - 1).toNat < h.l_.length := by omega
  rw [List.getElem?_eq_getElem hlt, show (toR h).L = h.l_.map toT from rfl, List.getElem?_map, List.getElem?_eq_getElem hlt]
  rfl

theorem toR_same {h : heap_Heap} (hi : HI h) {v : bonsairef15_Value} (ht : 1 ≤ v.Ref ∧ v.Ref ≤ (h.l_.length : Int)) : bonsairef15_Heap.mk (toR h).Most (toR h).Used ((toR h).L.set (w64 (v.Ref - 1)).toNat (toT (tget h.l_ v.Ref))) = toR h := by
  have hl := hi.l1
  have h1 := there_at hi ht
  rw [w64s (by omega) (by omega)] at h1 ⊢
  unfold idx at h1
  rw [if_pos (by omega)] at h1
  rw [set_same h1]

theorem tget_out {h : heap_Heap} {r : Int} (ht : ¬ (1 ≤ r ∧ r ≤ (h.l_.length : Int))) : tget h.l_ r = t0 := by
  unfold tget
  by_cases h1 : 1 ≤ r
  · rw [if_pos h1, List.getElem?_eq_none (by omega)]; rfl
  · rw [if_neg h1]

theorem rLen_eq {h : heap_Heap} (hi : HI h) (v : bonsairef15_Value) : bonsairef15_Heap_Len.fn (toR h) v = some (((tget h.l_ v.Ref).values_.length : Int), toR h) := by
  unfold bonsairef15_Heap_Len.fn
  rw [there_eq, obs]
  by_cases ht : 1 ≤ v.Ref ∧ v.Ref ≤ (h.l_.length : Int)
  · simp only [ht, and_self, decide_true, Bool.not_true, cfl]
    rw [there_at hi ht, obs, toR_same hi ht]
    simp [toT]
  · simp only [ht, decide_false, Bool.not_false, ctr]
    rw [tget_out ht]; rfl

theorem rClass_eq {h : heap_Heap} (hi : HI h) (v : bonsairef15_Value) : bonsairef15_Heap_Class.fn (toR h) v = some ((tget h.l_ v.Ref).class_, toR h) := by
  unfold bonsairef15_Heap_Class.fn
  rw [there_eq, obs]
  by_cases ht : 1 ≤ v.Ref ∧ v.Ref ≤ (h.l_.length : Int)
  · simp only [ht, and_self, decide_true, Bool.not_true, cfl]
    rw [there_at hi ht, obs, toR_same hi ht]
    rfl
  · simp only [ht, decide_false, Bool.not_false, ctr]
    rw [tget_out ht]; rfl

theorem rGet_in {h : heap_Heap} (hi : HI h) (v : bonsairef15_Value) {i : Int} {u : heap_Value} (h0 : 0 ≤ i) (hu : (tget h.l_ v.Ref).values_[i.toNat]? = some u) : bonsairef15_Heap_Get.fn (toR h) v i = some (toV u, true, toR h) := by
  obtain ⟨hlt, _⟩ := List.getElem?_eq_some_iff.1 hu
  have ht : 1 ≤ v.Ref ∧ v.Ref ≤ (h.l_.length : Int) := by
    by_cases ht : 1 ≤ v.Ref ∧ v.Ref ≤ (h.l_.length : Int)
    · exact ht
    · rw [tget_out ht] at hlt; simp at hlt
  unfold bonsairef15_Heap_Get.fn
  have e1 : decide (i < 0) = false := by simp; omega
  have e2 : decide (i ≥ ((tget h.l_ v.Ref).values_.length : Int)) = false := by simp; omega
  simp only [e1, cfl, rLen_eq hi, obs, e2]
  rw [there_at hi ht, obs]
  unfold idx
  rw [if_pos h0, show (toT (tget h.l_ v.Ref)).l_ = (tget h.l_ v.Ref).values_.map toV from rfl, List.getElem?_map, hu]
  simp only [Option.map_some, obs]
  rw [toR_same hi ht]

theorem rGet_out {h : heap_Heap} (hi : HI h) (v : bonsairef15_Value) {i : Int} (ho : i < 0 ∨ ((tget h.l_ v.Ref).values_.length : Int) ≤ i) : bonsairef15_Heap_Get.fn (toR h) v i = some (toV v0, false, toR h) := by
  unfold bonsairef15_Heap_Get.fn
  by_cases h1 : i < 0
  · simp only [h1, decide_true, ctr, obs]; rfl
  · have e2 : decide (i ≥ ((tget h.l_ v.Ref).values_.length : Int)) = true := by simp; omega
    simp only [h1, decide_false, cfl, rLen_eq hi, obs, e2, ctr]; rfl

theorem rPut_in {h : heap_Heap} (hi : HI h) (v : bonsairef15_Value) {i : Int} (x : heap_Value) (h0 : 0 ≤ i) (h1 : i < ((tget h.l_ v.Ref).values_.length : Int)) :
    bonsairef15_Heap_Put.fn (toR h) v i (toV x) = some (true, toR (tset h v.Ref ⟨(tget h.l_ v.Ref).class_, (tget h.l_ v.Ref).values_.set i.toNat x⟩)) := by
  have ht : 1 ≤ v.Ref ∧ v.Ref ≤ (h.l_.length : Int) := by
    by_cases ht : 1 ≤ v.Ref ∧ v.Ref ≤ (h.l_.length : Int)
    · exact ht
    · rw [tget_out ht] at h1; simp at h1; omega
  unfold bonsairef15_Heap_Put.fn
  have e1 : decide (i < 0) = false := by simp; omega
  have e2 : decide (i ≥ ((tget h.l_ v.Ref).values_.length : Int)) = false := by simp; omega
  simp only [e1, cfl, rLen_eq hi, obs, e2]
  rw [there_at hi ht, obs]
  unfold idx
  rw [if_pos h0, show (toT (tget h.l_ v.Ref)).l_ = (tget h.l_ v.Ref).values_.map toV from rfl, List.getElem?_map, List.getElem?_eq_getElem (by omega)]
  simp only [Option.map_some, obs]
  have hl := hi.l1
  rw [w64s (by omega) (by omega)]
  unfold tset
  rw [if_pos ht]
  simp only [toR, List.map_set, toT]

theorem rPut_out {h : heap_Heap} (hi : HI h) (v : bonsairef15_Value) {i : Int} (x : bonsairef15_Value) (ho : i < 0 ∨ ((tget h.l_ v.Ref).values_.length : Int) ≤ i) : bonsairef15_Heap_Put.fn (toR h) v i x = some (false, toR h) := by
  unfold bonsairef15_Heap_Put.fn
  by_cases h1 : i < 0
  · simp only [h1, decide_true, ctr, obs]
  · have e2 : decide (i ≥ ((tget h.l_ v.Ref).values_.length : Int)) = true := by simp; omega
    simp only [h1, decide_false, cfl, rLen_eq hi, obs, e2, ctr]

theorem take_no {h : heap_Heap} (hi : HI h) (c : ByteArray) {n : Int} (hn : h.most_ ≤ h.used_ + n) : bonsairef15_Heap_take.fn (toR h) c n = some (toV v0, false, toR h) := by
  unfold bonsairef15_Heap_take.fn
  rw [show (toR h).Most = h.most_ from rfl, show (toR h).Used = h.used_ from rfl]
  rw [w64s (by have := hi.m1; have := hi.u0; have := hi.um; omega) (by have := hi.m1; have := hi.u0; have := hi.um; omega)]
  have : decide (n ≥ h.most_ - h.used_) = true := by simp; omega
  rw [this]; rfl

theorem take_yes {h : heap_Heap} (hi : HI h) (c : ByteArray) {n : Int} (h0 : 0 ≤ n) (hn : h.used_ + n < h.most_) : bonsairef15_Heap_take.fn (toR h) c n = some (⟨0, ByteArray.empty, (h.l_.length : Int) + 1⟩, true, toR (hadd h c n)) := by
  have := hi.m1; have := hi.u0; have := hi.um; have := hi.lu
  unfold bonsairef15_Heap_take.fn
  rw [show (toR h).Most = h.most_ from rfl, show (toR h).Used = h.used_ from rfl]
  rw [w64s (x := h.most_ - h.used_) (by omega) (by omega)]
  have e1 : decide (n ≥ h.most_ - h.used_) = false := by simp; omega
  have hl : (toR h).L.length = h.l_.length := by simp [toR]
  rw [e1, mayMake_of h0 (by omega), hl, roomy_of (by omega)]
  rw [w64s (x := n + 1) (by omega) (by omega), w64s (x := h.used_ + (n + 1)) (by omega) (by omega)]
  simp only [cfl, guardB, ctr]
  have e2 : (toR (hadd h c n)) = bonsairef15_Heap.mk h.most_ (h.used_ + (n + 1)) ((toR h).L ++ [bonsairef15_thing.mk c (List.replicate n.toNat (GoZero.zero 33 (α := bonsairef15_Value)))]) := by
    simp only [toR, hadd, List.map_append, List.map_cons, List.map_nil, toT, List.map_replicate]
    rfl
  rw [e2]
  simp [hl]

theorem rArray_neg {h : bonsairef15_Heap} {n : Int} (hn : n < 0) : bonsairef15_Heap_Array.fn h n = some (toV v0, false, h) := by
  unfold bonsairef15_Heap_Array.fn
  have e : decide (n < 0) = true := by simp; omega
  rw [e, ctr]; rfl
theorem rArray_no {h : heap_Heap} (hi : HI h) {n : Int} (h0 : 0 ≤ n) (h1 : n ≤ 1000000000000) (hn : h.most_ ≤ h.used_ + n) : bonsairef15_Heap_Array.fn (toR h) n = some (toV v0, false, toR h) := by
  unfold bonsairef15_Heap_Array.fn
  have e : decide (n < 0) = false := by simp; omega
  rw [e, w64s (by omega) h1, take_no hi _ hn, cfl, obs]
theorem rArray_yes {h : heap_Heap} (hi : HI h) {n : Int} (h0 : 0 ≤ n) (hn : h.used_ + n < h.most_) : bonsairef15_Heap_Array.fn (toR h) n = some (⟨0, ByteArray.empty, (h.l_.length : Int) + 1⟩, true, toR (hadd h ⟨#[]⟩ n)) := by
  have := hi.m1; have := hi.u0; have := hi.um
  unfold bonsairef15_Heap_Array.fn
  have e : decide (n < 0) = false := by simp; omega
  rw [e, w64s (by omega) (by omega), take_yes hi _ h0 hn, cfl, obs]
theorem rObject_no {h : heap_Heap} (hi : HI h) {c : ByteArray} {n : Int} (hn : h.most_ ≤ h.used_ + n) : bonsairef15_Heap_Object.fn (toR h) c n = some (toV v0, false, toR h) := by
  unfold bonsairef15_Heap_Object.fn; rw [take_no hi _ hn, obs]
theorem rObject_yes {h : heap_Heap} (hi : HI h) {c : ByteArray} {n : Int} (h0 : 0 ≤ n) (hn : h.used_ + n < h.most_) : bonsairef15_Heap_Object.fn (toR h) c n = some (⟨0, ByteArray.empty, (h.l_.length : Int) + 1⟩, true, toR (hadd h c n)) := by
  unfold bonsairef15_Heap_Object.fn; rw [take_yes hi _ h0 hn, obs]

theorem alike_eq (v : heap_Value) : bonsailaw15_alike.fn v (toV v) = some true := by
  unfold bonsailaw15_alike.fn toV
  simp

/-- the one behind a deed that makes -/
theorem made {h : heap_Heap} (hi : HI h) (c : ByteArray) {n : Int} (h0 : 0 ≤ n) (h1 : n ≤ 1000000000000) : ∃ v b h', HI h' ∧ heap_Heap_add.fn h c n = some (v, b, h') ∧ bonsairef15_Heap_take.fn (toR h) c n = some (toV v, b, toR h') := by
  by_cases hf : h.used_ + n < h.most_
  · exact ⟨_, _, _, hi.hadd c h0 hf, add_yes hi c h0 hf, take_yes hi c h0 hf⟩
  · exact ⟨_, _, _, hi, add_no hi c (by omega), take_no hi c (by omega)⟩

theorem made_obj {h : heap_Heap} (hi : HI h) (c : ByteArray) {l : List api_Field} (h1 : l.length ≤ 1000) : ∃ v b h', HI h' ∧ heap_Heap_Object.fn h c l = some (v, b, h') ∧ bonsairef15_Heap_Object.fn (toR h) c (l.length : Int) = some (toV v, b, toR h') := by
  obtain ⟨v, b, h', hi', e1, e2⟩ := made hi c (n := (l.length : Int)) (by omega) (by omega)
  refine ⟨v, b, h', hi', ?_, ?_⟩
  · unfold heap_Heap_Object.fn; rw [e1, obs]
  · unfold bonsairef15_Heap_Object.fn; rw [e2, obs]

theorem made_arr {h : heap_Heap} (hi : HI h) {n : Int} (h0 : -3000000000 ≤ n) (h1 : n ≤ 3000000000) : ∃ v b h', HI h' ∧ heap_Heap_Array.fn h n = some (v, b, h') ∧ bonsairef15_Heap_Array.fn (toR h) n = some (toV v, b, toR h') := by
  by_cases hn : n < 0
  · exact ⟨_, _, _, hi, Array_neg hn, rArray_neg hn⟩
  · obtain ⟨v, b, h', hi', e1, e2⟩ := made hi ⟨#[]⟩ (n := n) (by omega) (by omega)
    have e : decide (n < 0) = false := by simp; omega
    refine ⟨v, b, h', hi', ?_, ?_⟩
    · unfold heap_Heap_Array.fn; rw [e, cfl, w64s (by omega) (by omega), e1, obs]
    · unfold bonsairef15_Heap_Array.fn; rw [e, cfl, w64s (by omega) (by omega), e2, obs]

theorem did_put {h : heap_Heap} (hi : HI h) (r i : Int) (x : heap_Value) : ∃ b h', HI h' ∧ heap_Heap_Put.fn h ⟨0, ByteArray.empty, r⟩ i x = some (b, h') ∧ bonsairef15_Heap_Put.fn (toR h) ⟨0, ByteArray.empty, r⟩ i (toV x) = some (b, toR h') := by
  by_cases ho : i < 0 ∨ ((tget h.l_ r).values_.length : Int) ≤ i
  · exact ⟨_, _, hi, Put_out hi _ _ ho, rPut_out hi _ _ ho⟩
  · exact ⟨_, _, hi.tset _ _, Put_in hi _ x (by omega) (by show i < ((tget h.l_ r).values_.length : Int); omega), rPut_in hi _ x (by omega) (by show i < ((tget h.l_ r).values_.length : Int); omega)⟩

theorem did_get {h : heap_Heap} (hi : HI h) (r i : Int) : ∃ v b, heap_Heap_Get.fn h ⟨0, ByteArray.empty, r⟩ i = some (v, b, h) ∧ bonsairef15_Heap_Get.fn (toR h) ⟨0, ByteArray.empty, r⟩ i = some (toV v, b, toR h) := by
  by_cases ho : i < 0 ∨ ((tget h.l_ r).values_.length : Int) ≤ i
  · exact ⟨_, _, Get_out hi _ ho, rGet_out hi _ ho⟩
  · have hlt : i.toNat < (tget h.l_ r).values_.length := by omega
    exact ⟨_, _, Get_in hi _ (by omega) (List.getElem?_eq_getElem hlt), rGet_in hi _ (by omega) (List.getElem?_eq_getElem hlt)⟩

theorem i32_bounds {n : Int} (h : (Lit.int .i32 n).wf = true) : -2147483648 ≤ n ∧ n ≤ 2147483647 := by
  simp only [Lit.wf, Bool.and_eq_true, decide_eq_true_eq] at h
  exact ⟨Int.le_trans (by decide) h.1, Int.le_trans h.2 (by decide)⟩

theorem w32_bounds (x : Int) : -3000000000 ≤ w32 x ∧ w32 x ≤ 3000000000 := by
  unfold w32 IntKind.wrap
  simp only [IntKind.bits, IntKind.signed]
  have e1 : (2 : Int) ^ 32 = 4294967296 := by decide
  have e2 : (2 : Int) ^ (32 - 1) = 2147483648 := by decide
  simp only [e1, e2]
  split
  · rename_i h; simp only [Bool.and_eq_true, decide_eq_true_eq, ge_iff_le] at h; omega
  · rename_i h; simp only [Bool.and_eq_true, decide_eq_true_eq, ge_iff_le, not_and, true_implies] at h; omega

structure ActOk (a : bonsailaw15_Act) : Prop where
  w0 : 0 ≤ a.What
  r0 : 0 ≤ a.Ref
  r1 : a.Ref ≤ 255
  i0 : 0 ≤ a.I
  n0 : 0 ≤ a.N
  n1 : a.N ≤ 255
  raw : -2147483648 ≤ a.Raw ∧ a.Raw ≤ 2147483647

theorem plays_l1 (fu : Nat) (p3 : List bonsailaw15_Act) (hw : ∀ a ∈ p3, ActOk a) (hlen : p3.length ≤ 50) : ∀ (k : Nat) (h : heap_Heap) (i : Nat), HI h → i ≤ p3.length → p3.length - i < k →
    Ok (LRp (fun _ => True) (LRp (fun _ => False) (fun r => r = true))) (bonsailaw15_HeapPlays.l1 fu p3 k h.l_ h.used_ h.most_ (toR h).Most (toR h).Used (toR h).L (i : Int)) := by
  intro k
  induction k with
  | zero => intro h i _ _ hk; omega
  | succ k ih =>
    intro h i hi hle hk
    unfold bonsailaw15_HeapPlays.l1
    rcases Nat.lt_or_ge i p3.length with hlt | hge
    · have e1 : decide ((i : Int) < (p3.length : Int)) = true := by simp; omega
      have ha := hw _ (List.getElem_mem hlt)
      rw [e1, idx_nat, List.getElem?_eq_getElem hlt, w64s (x := (i : Int) + 1) (by omega) (by omega)]
      generalize p3[i] = a at ha
      simp only [obs, ctr]
      have hr := tmod_nn (a := a.Ref) (b := 12) ha.r0 (by decide)
      generalize Int.tmod a.Ref 12 = r at hr
      rw [w64s (x := r) (by omega) (by omega), w64s (x := r - 1) (by omega) (by omega)]
      have hn4 := tmod_nn (a := a.N) (b := 4) ha.n0 (by decide)
      generalize Int.tmod a.N 4 = n4 at hn4
      have hat : ∃ at_ : Int, w64 ((w64 (Int.tmod a.I 6)) - 1) = at_ := ⟨_, rfl⟩
      obtain ⟨at_, hat⟩ := hat
      rw [hat, w64s (x := n4) (by omega) (by omega)]
      have e0 : (heap_Heap.mk h.l_ h.used_ h.most_) = h := rfl
      rw [e0, toR_mk]
      -- the deed
      refine Ok.lthen (S := fun s => ∃ h', HI h' ∧ s = (h'.l_, h'.used_, h'.most_, (toR h').Most, (toR h').Used, (toR h').L, r - 1, r - 1)) ?_ (fun s hs => ?_)
      · cases hw0 : (Int.tmod a.What 6) == 0
        · cases hw1 : (Int.tmod a.What 6) == 1
          · simp only [cfl]
            have e2 : (bif (Int.tmod a.What 6) == 2 then (some (r - 1, r - 1, at_, (Int.tmod a.What 6) == 2)) else (some (r - 1, r - 1, at_, (Int.tmod a.What 6) == 3))) = some (r - 1, r - 1, at_, (Int.tmod a.What 6) == 2 || (Int.tmod a.What 6) == 3) := by
              cases (Int.tmod a.What 6) == 2 <;> rfl
            rw [e2, obs]
            simp only
            cases (Int.tmod a.What 6) == 2 || (Int.tmod a.What 6) == 3
            · obtain ⟨v, b, g1, g2⟩ := did_get hi (r - 1) at_
              rw [g1, cfl]
              simp only [obs, g2, alike_eq, Bool.not_true, cfl, beq_self_eq_true]
              exact ⟨_, rfl, h, hi, rfl⟩
            · obtain ⟨b, h', hi', g1, g2⟩ := did_put hi (r - 1) at_ (heap_Value.mk a.Raw (⟨#[115]⟩ : ByteArray) 3)
              rw [g1, ctr]
              rw [show toV (heap_Value.mk a.Raw (⟨#[115]⟩ : ByteArray) 3) = bonsairef15_Value.mk a.Raw (⟨#[115]⟩ : ByteArray) 3 from rfl] at g2
              simp only [obs, g2, Bool.not_true, cfl, beq_self_eq_true]
              exact ⟨_, rfl, h', hi', rfl⟩
          · simp only [cfl, ctr]
            have e2 : ∃ q, -3000000000 ≤ q ∧ q ≤ 3000000000 ∧ (bif decide (a.N > 250) then (some (r - 1, r - 1, a.Raw)) else (some (r - 1, r - 1, w32 ((w32 (Int.tmod a.N 7)) - 1)))) = some (r - 1, r - 1, q) := by
              cases decide (a.N > 250)
              · exact ⟨_, (w32_bounds _).1, (w32_bounds _).2, rfl⟩
              · have := ha.raw; exact ⟨a.Raw, by omega, by omega, rfl⟩
            obtain ⟨q, q1, q2, e2⟩ := e2
            rw [e2, obs]
            simp only
            obtain ⟨v, b, h', hi', g1, g2⟩ := made_arr hi q1 q2
            rw [g1, obs, g2, obs]
            simp only [obs, alike_eq, Bool.not_true, cfl, beq_self_eq_true]
            exact ⟨_, rfl, h', hi', rfl⟩
        · rw [ctr, mayMake_of hn4.1 (by omega)]
          have hrep : (List.replicate n4.toNat (GoZero.zero 97 (α := api_Field))).length = n4.toNat := by simp
          obtain ⟨v, b, h', hi', g1, g2⟩ := made_obj hi ⟨#[67]⟩ (l := List.replicate n4.toNat (GoZero.zero 97 (α := api_Field))) (by rw [hrep]; omega)
          rw [hrep, Int.toNat_of_nonneg hn4.1] at g2
          simp only [guardB, ctr, g1, obs, g2, alike_eq, Bool.not_true, cfl, beq_self_eq_true]
          exact ⟨_, rfl, h', hi', rfl⟩
      · obtain ⟨h', hi', rfl⟩ := hs
        simp only
        rw [show (heap_Heap.mk h'.l_ h'.used_ h'.most_) = h' from rfl, Used_eq, obs]
        have e3 : (h'.used_ != (toR h').Used) = false := by simp [toR]
        simp only [e3, cfl, toR_mk]
        rw [Len_eq hi', obs]
        simp only
        rw [rLen_eq hi', obs]
        simp only [bne_self_eq_false, cfl]
        rw [Class_eq hi', obs]
        simp only
        rw [rClass_eq hi', obs]
        simp only [beq_self_eq_true, Bool.not_true, obs, cfl]
        exact ih h' (i + 1) hi' (by omega) (by omega)
    · have e1 : decide ((i : Int) < (p3.length : Int)) = false := by simp; omega
      rw [e1]
      exact ⟨_, rfl, trivial⟩

theorem plays_l0 (p3 : List bonsailaw15_Act) (hw : ∀ a ∈ p3, ActOk a) (hlen : p3.length ≤ 50) (ms : List Int) (h2 : ms.length = 2) (hm : ∀ m ∈ ms, m ≤ 1000) : ∀ (k : Nat) (i : Nat), i ≤ 2 → 2 - i < k →
    Ok (LRp (fun _ => True) (fun r => r = true)) (bonsailaw15_HeapPlays.l0 100 p3 k ms (i : Int)) := by
  intro k
  induction k with
  | zero => intro i _ hk; omega
  | succ k ih =>
    intro i hle hk
    unfold bonsailaw15_HeapPlays.l0
    rcases Nat.lt_or_ge i 2 with hlt | hge
    · have e1 : decide ((i : Int) < 2) = true := by simp; omega
      have hlt' : i < ms.length := by omega
      have hmm := hm _ (List.getElem_mem hlt')
      rw [e1, idx_nat, List.getElem?_eq_getElem hlt', w64s (x := (i : Int) + 1) (by omega) (by omega)]
      generalize ms[i] = m at hmm
      rw [ctr, obs]
      refine Ok.lthen (S := fun _ => True) ?_ (fun s _ => ih (i + 1) (by omega) (by omega))
      rw [New_eq, obs]
      have e2 : bonsairef15_NewHeap.fn m = some (toR ⟨[], 0, if 0 > m then 0 else m⟩) := rfl
      rw [e2, obs]
      refine (plays_l1 100 p3 hw hlen 100 ⟨[], 0, if 0 > m then 0 else m⟩ 0 (HI.new (by omega)) (by omega) (by omega)).mono fun v hv => ?_
      cases v with
      | brk t => exact trivial
      | ret r => cases r with
        | brk t => exact hv.elim
        | ret r => exact hv
    · have e1 : decide ((i : Int) < 2) = false := by simp; omega
      rw [e1]
      exact ⟨_, rfl, trivial⟩

theorem bonsailaw15_HeapPlays_true (p1 : Int) (w1 : (Lit.int .i64 p1).wf = true) (p2 : Int) (w2 : (Lit.int .u8 p2).wf = true) (l : List bonsailaw15_Act) (hl : l.length ≤ maxLen) (hw : ∀ y ∈ l, (Lit.int .u8 y.What).wf = true ∧ (Lit.int .u8 y.Ref).wf = true ∧ (Lit.int .u8 y.I).wf = true ∧ (Lit.int .u8 y.N).wf = true ∧ (Lit.int .i32 y.Raw).wf = true) :
    ∃ fu, bonsailaw15_HeapPlays.fn fu p1 p2 l = some true := by
  refine ⟨100, ?_⟩
  unfold bonsailaw15_HeapPlays.fn
  rw [known_true]
  simp only [obs, Bool.not_true, cfl]
  by_cases h50 : (l.length : Int) > 50
  · have e : decide ((l.length : Int) > 50) = true := by simp; omega
    rw [e, ctr]
  · have e : decide ((l.length : Int) > 50) = false := by simp; omega
    rw [e, cfl]
    have hb := u8_bounds w2
    have ht := tmod_nn (a := p2) (b := 40) hb.1 (by decide)
    generalize Int.tmod p2 40 = m at ht ⊢
    rw [w64s (x := m) (by omega) (by omega)]
    refine Ok.eq ?_
    refine Ok.lthen (plays_l0 l (fun y hy => ?_) (by omega) _ rfl (fun q hq => ?_) 100 0 (by omega) (by omega)) (fun s _ => ⟨_, rfl, rfl⟩)
    · obtain ⟨g1, g2, g3, g4, g5⟩ := hw y hy
      exact ⟨(u8_bounds g1).1, (u8_bounds g2).1, (u8_bounds g2).2, (u8_bounds g3).1, (u8_bounds g4).1, (u8_bounds g4).2, i32_bounds g5⟩
    · rcases List.mem_cons.1 hq with rfl | hq
      · omega
      · rw [List.mem_singleton.1 hq]
        by_cases h1 : 100 < p1
        · rw [if_pos h1]; omega
        · rw [if_neg h1]; omega
end Go.Proofs.Ytgaldjnnfkdohaa
