/- heap: what its functions reckon, in closed form. -/
import Derived.Test.YtgaldjnnfkdohaaHk
import Derived.Test.YtgaldjnnfkdohaaPureBase
set_option linter.unusedVariables false
set_option linter.unusedSimpArgs false
namespace Go.Proofs.Ytgaldjnnfkdohaa
open Go Go.Fw

abbrev t0 : heap_thing := heap_thing.mk ByteArray.empty []
abbrev v0 : heap_Value := heap_Value.mk 0 ByteArray.empty 0

/-- a thing by its number -/
def tget (l : List heap_thing) (r : Int) : heap_thing := if 1 ≤ r then (l[(r - 1).toNat]?).getD t0 else t0

/-- a heap that is right -/
structure HI (h : heap_Heap) : Prop where
  m1 : h.most_ ≤ 1000000
  u0 : 0 ≤ h.used_
  um : h.used_ ≤ h.most_
  lu : (h.l_.length : Int) ≤ h.used_

theorem HI.l1 {h : heap_Heap} (hi : HI h) : (h.l_.length : Int) ≤ 1000000 := by have := hi.m1; have := hi.um; have := hi.lu; omega

theorem w64s {x : Int} (h1 : -1000000000000 ≤ x) (h2 : x ≤ 1000000000000) : w64 x = x := w64_eq (by omega) (by omega)

theorem set_same {α : Type} {l : List α} {i : Nat} {x : α} (h : l[i]? = some x) : l.set i x = l := by
  apply List.ext_getElem?
  intro j
  by_cases e : i = j
  · subst e
    obtain ⟨hlt, _⟩ := List.getElem?_eq_some_iff.1 h
    rw [List.getElem?_set_self hlt, h]
  · rw [List.getElem?_set_ne e]

theorem of_eq {h : heap_Heap} (hi : HI h) (v : heap_Value) : heap_Heap_of.fn h v = some (tget h.l_ v.Ref) := by
  have hl := hi.l1
  unfold heap_Heap_of.fn tget
  by_cases h1 : v.Ref < 1
  · simp only [h1, decide_true, cond_true, Option.bind_some]; rw [if_neg (by omega)]
  · rw [if_pos (by omega)]
    by_cases h2 : v.Ref > (h.l_.length : Int)
    · simp only [h1, h2, decide_true, decide_false, cond_true, cond_false, Option.bind_some]; rw [List.getElem?_eq_none (by omega)]; rfl
    · have hlt : (v.Ref - 1).toNat < h.l_.length := by omega
      simp only [h1, h2, decide_false, cond_false, Option.bind_some]
      rw [w64s (by omega) (by omega)]
      unfold idx
      rw [if_pos (by omega), List.getElem?_eq_getElem hlt]
      rfl

/-- a thing is set -/
def tset (h : heap_Heap) (r : Int) (u : heap_thing) : heap_Heap := if 1 ≤ r ∧ r ≤ (h.l_.length : Int) then ⟨h.l_.set (r - 1).toNat u, h.used_, h.most_⟩ else h

theorem put_eq {h : heap_Heap} (hi : HI h) (v : heap_Value) (u : heap_thing) : heap_Heap_of.put h v u = tset h v.Ref u := by
  have hl := hi.l1
  unfold heap_Heap_of.put tset
  by_cases h1 : v.Ref < 1
  · rw [if_neg (by omega)]; simp [h1]
  · by_cases h2 : v.Ref > (h.l_.length : Int)
    · rw [if_neg (by omega)]; simp [h1, h2]
    · rw [if_pos (by omega)]; simp only [h1, h2, decide_false, cond_false]
      rw [w64s (by omega) (by omega)]

theorem tset_same {h : heap_Heap} (r : Int) : tset h r (tget h.l_ r) = h := by
  unfold tset tget
  by_cases h1 : 1 ≤ r ∧ r ≤ (h.l_.length : Int)
  · rw [if_pos h1, if_pos h1.1]
    have hlt : (r - 1).toNat < h.l_.length := by omega
    rw [set_same (by rw [List.getElem?_eq_getElem hlt]; rfl)]
  · rw [if_neg h1]

theorem Class_eq {h : heap_Heap} (hi : HI h) (v : heap_Value) : heap_Heap_Class.fn h v = some ((tget h.l_ v.Ref).class_, h) := by
  unfold heap_Heap_Class.fn
  rw [of_eq hi, Option.bind_some, put_eq hi, tset_same]

theorem Len_eq {h : heap_Heap} (hi : HI h) (v : heap_Value) : heap_Heap_Len.fn h v = some (((tget h.l_ v.Ref).values_.length : Int), h) := by
  unfold heap_Heap_Len.fn
  rw [of_eq hi, Option.bind_some, put_eq hi, tset_same]

theorem Get_in {h : heap_Heap} (hi : HI h) (v : heap_Value) {i : Int} {u : heap_Value} (h0 : 0 ≤ i) (hu : (tget h.l_ v.Ref).values_[i.toNat]? = some u) : heap_Heap_Get.fn h v i = some (u, true, h) := by
  obtain ⟨hlt, _⟩ := List.getElem?_eq_some_iff.1 hu
  unfold heap_Heap_Get.fn
  rw [of_eq hi, Option.bind_some, put_eq hi, tset_same]
  have e1 : decide (i < 0) = false := by simp; omega
  have e2 : decide (i ≥ ((tget h.l_ v.Ref).values_.length : Int)) = false := by simp; omega
  simp only [e1, e2, cond_false, Option.bind_some]
  unfold idx
  rw [if_pos h0, hu]; rfl

theorem Get_out {h : heap_Heap} (hi : HI h) (v : heap_Value) {i : Int} (ho : i < 0 ∨ ((tget h.l_ v.Ref).values_.length : Int) ≤ i) : heap_Heap_Get.fn h v i = some (v0, false, h) := by
  unfold heap_Heap_Get.fn
  rw [of_eq hi, Option.bind_some, put_eq hi, tset_same]
  by_cases h1 : i < 0
  · simp [h1]
  · have e2 : decide (i ≥ ((tget h.l_ v.Ref).values_.length : Int)) = true := by simp; omega
    simp only [h1, e2, decide_false, cond_false, cond_true, Option.bind_some]

theorem Put_in {h : heap_Heap} (hi : HI h) (v : heap_Value) {i : Int} (x : heap_Value) (h0 : 0 ≤ i) (h1 : i < ((tget h.l_ v.Ref).values_.length : Int)) :
    heap_Heap_Put.fn h v i x = some (true, tset h v.Ref ⟨(tget h.l_ v.Ref).class_, (tget h.l_ v.Ref).values_.set i.toNat x⟩) := by
  unfold heap_Heap_Put.fn
  rw [of_eq hi, Option.bind_some]
  have e1 : decide (i < 0) = false := by simp; omega
  have e2 : decide (i ≥ ((tget h.l_ v.Ref).values_.length : Int)) = false := by simp; omega
  simp only [e1, e2, cond_false, Option.bind_some]
  unfold idx
  rw [if_pos h0, List.getElem?_eq_getElem (by omega), Option.bind_some, put_eq hi]

theorem Put_out {h : heap_Heap} (hi : HI h) (v : heap_Value) {i : Int} (x : heap_Value) (ho : i < 0 ∨ ((tget h.l_ v.Ref).values_.length : Int) ≤ i) : heap_Heap_Put.fn h v i x = some (false, h) := by
  unfold heap_Heap_Put.fn
  rw [of_eq hi, Option.bind_some, put_eq hi, tset_same]
  by_cases h1 : i < 0
  · simp [h1]
  · have e2 : decide (i ≥ ((tget h.l_ v.Ref).values_.length : Int)) = true := by simp; omega
    simp only [h1, e2, decide_false, cond_false, cond_true, Option.bind_some]

theorem HI.tset {h : heap_Heap} (hi : HI h) (r : Int) (u : heap_thing) : HI (tset h r u) := by
  unfold Proofs.Ytgaldjnnfkdohaa.tset
  split
  · exact ⟨hi.m1, hi.u0, hi.um, by simpa using hi.lu⟩
  · exact hi

theorem tset_in {h : heap_Heap} {r : Int} {u : heap_thing} (h1 : 1 ≤ r) (h2 : r ≤ (h.l_.length : Int)) : (tset h r u).l_ = h.l_.set (r - 1).toNat u := by
  unfold tset; rw [if_pos (And.intro h1 h2)]

theorem tset_get {h : heap_Heap} {r : Int} {u : heap_thing} (h1 : 1 ≤ r) (h2 : r ≤ (h.l_.length : Int)) (q : Int) : tget (tset h r u).l_ q = if q = r then u else tget h.l_ q := by
  rw [tset_in h1 h2]
  unfold tget
  by_cases e : q = r
  · subst e
    rw [if_pos h1, if_pos rfl, List.getElem?_set_self (by omega)]; rfl
  · rw [if_neg e]
    by_cases h3 : 1 ≤ q
    · rw [if_pos h3, if_pos h3, List.getElem?_set_ne (by omega)]
    · rw [if_neg h3, if_neg h3]

theorem tset_len {h : heap_Heap} {r : Int} {u : heap_thing} : (tset h r u).l_.length = h.l_.length := by unfold tset; split <;> simp
theorem tset_used {h : heap_Heap} {r : Int} {u : heap_thing} : (tset h r u).used_ = h.used_ := by unfold tset; split <;> rfl
theorem tset_most {h : heap_Heap} {r : Int} {u : heap_thing} : (tset h r u).most_ = h.most_ := by unfold tset; split <;> rfl

theorem add_no {h : heap_Heap} (hi : HI h) (c : ByteArray) {n : Int} (hn : h.most_ ≤ h.used_ + n) : heap_Heap_add.fn h c n = some (v0, false, h) := by
  unfold heap_Heap_add.fn
  rw [w64s (by have := hi.m1; have := hi.u0; have := hi.um; omega) (by have := hi.m1; have := hi.u0; have := hi.um; omega)]
  have : decide (n ≥ h.most_ - h.used_) = true := by simp; omega
  rw [this]; rfl

/-- a heap with a thing more -/
def hadd (h : heap_Heap) (c : ByteArray) (n : Int) : heap_Heap := ⟨h.l_ ++ [⟨c, List.replicate n.toNat v0⟩], h.used_ + (n + 1), h.most_⟩

theorem add_yes {h : heap_Heap} (hi : HI h) (c : ByteArray) {n : Int} (h0 : 0 ≤ n) (hn : h.used_ + n < h.most_) : heap_Heap_add.fn h c n = some (⟨0, ByteArray.empty, (h.l_.length : Int) + 1⟩, true, hadd h c n) := by
  have := hi.m1; have := hi.u0; have := hi.um; have := hi.lu
  unfold heap_Heap_add.fn
  rw [w64s (x := h.most_ - h.used_) (by omega) (by omega)]
  have e1 : decide (n ≥ h.most_ - h.used_) = false := by simp; omega
  rw [e1, mayMake_of h0 (by omega), roomy_of (by omega)]
  rw [w64s (x := n + 1) (by omega) (by omega), w64s (x := h.used_ + (n + 1)) (by omega) (by omega)]
  simp only [cond_false, guardB, cond_true, hadd]
  rw [show (GoZero.zero 32 (α := heap_Value)) = v0 from rfl]
  simp

theorem HI.hadd {h : heap_Heap} (hi : HI h) (c : ByteArray) {n : Int} (h0 : 0 ≤ n) (hn : h.used_ + n < h.most_) : HI (hadd h c n) := by
  have := hi.m1; have := hi.u0; have := hi.um; have := hi.lu
  refine ⟨hi.m1, ?_, ?_, ?_⟩ <;> simp [Proofs.Ytgaldjnnfkdohaa.hadd] <;> omega

theorem hadd_get {h : heap_Heap} {c : ByteArray} {n : Int} (r : Int) : tget (hadd h c n).l_ r = if r = (h.l_.length : Int) + 1 then ⟨c, List.replicate n.toNat v0⟩ else tget h.l_ r := by
  unfold tget hadd
  by_cases h1 : 1 ≤ r
  · rw [if_pos h1, if_pos h1]
    by_cases e : r = (h.l_.length : Int) + 1
    · subst e; simp
    · rw [if_neg e]
      rcases Nat.lt_or_ge (r - 1).toNat h.l_.length with h2 | h2
      · rw [List.getElem?_append_left h2]
      · rw [List.getElem?_append_right h2, List.getElem?_eq_none (show ([_] : List heap_thing).length ≤ _ by simp; omega), List.getElem?_eq_none h2]
  · rw [if_neg h1, if_neg h1, if_neg (by omega)]

theorem New_eq {m : Int} : heap_New.fn m = some ⟨[], 0, if 0 > m then 0 else m⟩ := rfl
theorem HI.new {m : Int} (h : m ≤ 1000000) : HI ⟨[], 0, if 0 > m then 0 else m⟩ := by
  refine ⟨?_, by simp, ?_, by simp⟩ <;> simp only <;> split <;> omega

theorem Array_neg {h : heap_Heap} {n : Int} (hn : n < 0) : heap_Heap_Array.fn h n = some (v0, false, h) := by
  unfold heap_Heap_Array.fn; simp [hn]
theorem Array_no {h : heap_Heap} (hi : HI h) {n : Int} (h0 : 0 ≤ n) (h1 : n ≤ 1000000000000) (hn : h.most_ ≤ h.used_ + n) : heap_Heap_Array.fn h n = some (v0, false, h) := by
  unfold heap_Heap_Array.fn
  have e : decide (n < 0) = false := by simp; omega
  rw [e, w64s (by omega) h1, add_no hi _ hn]; rfl
theorem Array_yes {h : heap_Heap} (hi : HI h) {n : Int} (h0 : 0 ≤ n) (hn : h.used_ + n < h.most_) : heap_Heap_Array.fn h n = some (⟨0, ByteArray.empty, (h.l_.length : Int) + 1⟩, true, hadd h ⟨#[]⟩ n) := by
  have := hi.m1; have := hi.u0; have := hi.um
  unfold heap_Heap_Array.fn
  have e : decide (n < 0) = false := by simp; omega
  rw [e, w64s (by omega) (by omega), add_yes hi _ h0 hn]; rfl
theorem Object_no {h : heap_Heap} (hi : HI h) {c : ByteArray} {l : List api_Field} (hn : h.most_ ≤ h.used_ + (l.length : Int)) : heap_Heap_Object.fn h c l = some (v0, false, h) := by
  unfold heap_Heap_Object.fn; rw [add_no hi _ hn]; rfl
theorem Object_yes {h : heap_Heap} (hi : HI h) {c : ByteArray} {l : List api_Field} (hn : h.used_ + (l.length : Int) < h.most_) : heap_Heap_Object.fn h c l = some (⟨0, ByteArray.empty, (h.l_.length : Int) + 1⟩, true, hadd h c (l.length : Int)) := by
  unfold heap_Heap_Object.fn; rw [add_yes hi _ (Int.natCast_nonneg _) hn]; rfl
theorem Used_eq {h : heap_Heap} : heap_Heap_Used.fn h = some (h.used_, h) := rfl

theorem Ok.eq {x : Option Bool} (h : Ok (fun r => r = true) x) : x = some true := by obtain ⟨v, hv, rfl⟩ := h; exact hv

theorem known_true : bonsailaw15_known.fn = some true := by kernel_rfl
end Go.Proofs.Ytgaldjnnfkdohaa
