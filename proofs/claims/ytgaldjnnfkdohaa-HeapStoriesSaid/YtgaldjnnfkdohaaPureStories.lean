/- HeapStories: what it reckons is true. -/
import Derived.Test.YtgaldjnnfkdohaaHs
import Derived.Test.YtgaldjnnfkdohaaPureHeap
set_option linter.unusedVariables false
set_option linter.unusedSimpArgs false
namespace Go.Proofs.Ytgaldjnnfkdohaa
open Go Go.Fw

abbrev cA : ByteArray := ⟨#[65]⟩
abbrev cB : ByteArray := ⟨#[66]⟩
def vN (n : Int) : heap_Value := heap_Value.mk n ByteArray.empty 0

/-- the heap of the story -/
def H2 (k : Nat) (want : List Int) : heap_Heap := ⟨[⟨cA, want.map vN⟩, ⟨cB, List.replicate k v0⟩], 2 * (k : Int) + 2, 200⟩

theorem H2_hi {k : Nat} {want : List Int} (hk : k ≤ 10) : HI (H2 k want) := ⟨by simp [H2], by simp [H2]; omega, by simp [H2]; omega, by simp [H2]; omega⟩
theorem H2_get1 {k : Nat} {want : List Int} : tget (H2 k want).l_ 1 = ⟨cA, want.map vN⟩ := rfl
theorem H2_get2 {k : Nat} {want : List Int} : tget (H2 k want).l_ 2 = ⟨cB, List.replicate k v0⟩ := rfl

abbrev x1 : heap_Value := ⟨0, ByteArray.empty, 1⟩
abbrev x2 : heap_Value := ⟨0, ByteArray.empty, 2⟩

theorem stories_l0 (fu : Nat) (p2 p6 : List Int) (k : Nat) (hk0 : 0 < k) (hk : k ≤ 10) (x42 : heap_Value × Bool × heap_Heap) (h42 : x42.1 = x1) (s85 : Int × Bool) (h85 : s85.1 = (k : Int)) (hw : ∀ y ∈ p2, 0 ≤ y ∧ y ≤ 255) (hlen : p2.length ≤ 30) (h6 : p2.length ≤ p6.length) : ∀ (f : Nat) (want : List Int) (i : Nat), want.length = k → i ≤ p2.length → p2.length - i < f →
    Ok (LRp (fun s => ∃ want' : List Int, want'.length = k ∧ s = ((H2 k want').l_, (H2 k want').used_, (H2 k want').most_, want')) (fun r => r = true)) (bonsailaw15_HeapStories.l0 fu p2 p6 x42 s85 f (H2 k want).l_ (H2 k want).used_ (H2 k want).most_ want (i : Int)) := by
  intro f
  induction f with
  | zero => intro want i _ _ hf; omega
  | succ f ih =>
    intro want i hwl hle hf
    unfold bonsailaw15_HeapStories.l0
    rw [h42, h85]
    rcases Nat.lt_or_ge i p2.length with hlt | hge
    · have e1 : decide ((i : Int) < (p2.length : Int)) = true := by simp; omega
      have hx := hw _ (List.getElem_mem hlt)
      rw [e1, idx_nat, idx_nat, List.getElem?_eq_getElem hlt, List.getElem?_eq_getElem (show i < p6.length by omega)]
      generalize p2[i] = x at hx
      generalize p6[i] = y
      simp only [obs, ctr]
      rw [w64s (x := x) (by omega) (by omega), w64s (x := (i : Int) + 1) (by omega) (by omega)]
      have hn := tmod_nn (a := x) (b := (k : Int)) hx.1 (by omega)
      generalize Int.tmod x (k : Int) = n at hn
      obtain ⟨n, rfl⟩ : ∃ q : Nat, n = (q : Int) := ⟨n.toNat, by omega⟩
      have hk2 : ((k : Int) != 0) = true := by simp; omega
      rw [hk2]
      have e0 : (heap_Heap.mk (H2 k want).l_ (H2 k want).used_ (H2 k want).most_) = H2 k want := rfl
      rw [e0, Put_in (H2_hi hk) x1 _ hn.1 (by rw [H2_get1]; simp; omega)]
      simp only [guardB, ctr, obs, Bool.not_true, cfl, idx_nat, List.getElem?_eq_getElem (show n < want.length by omega)]
      have e2 : tset (H2 k want) x1.Ref ⟨(tget (H2 k want).l_ x1.Ref).class_, (tget (H2 k want).l_ x1.Ref).values_.set ((n : Int)).toNat ⟨y, ByteArray.empty, 0⟩⟩ = H2 k (want.set n y) := by
        rw [H2_get1]
        simp only [Int.toNat_natCast]
        rw [show (heap_Value.mk y ByteArray.empty 0) = vN y from rfl, ← List.map_set]
        rfl
      rw [e2]
      exact ih (want.set n y) (i + 1) (by simp [hwl]) (by omega) (by omega)
    · have e1 : decide ((i : Int) < (p2.length : Int)) = false := by simp; omega
      rw [e1]
      exact ⟨_, rfl, want, hwl, rfl⟩

theorem stories_l1 (fu : Nat) (k : Nat) (hk : k ≤ 10) (x42 x64 : heap_Value × Bool × heap_Heap) (h42 : x42.1 = x1) (h64 : x64.1 = x2) (s85 : Int × Bool) (h85 : s85.1 = (k : Int)) (want : List Int) (hwl : want.length = k) (s : (List heap_thing) × Int × Int × (List Int)) (hs : s.2.2.2 = want) : ∀ (f : Nat) (i : Nat), i ≤ k → k - i < f →
    Ok (LRp (fun s => s = ((H2 k want).l_, (H2 k want).used_, (H2 k want).most_)) (fun r => r = true)) (bonsailaw15_HeapStories.l1 fu x42 x64 s85 s f (H2 k want).l_ (H2 k want).used_ (H2 k want).most_ (i : Int)) := by
  intro f
  induction f with
  | zero => intro i _ hf; omega
  | succ f ih =>
    intro i hle hf
    unfold bonsailaw15_HeapStories.l1
    rw [h42, h64, h85]
    rcases Nat.lt_or_ge i k with hlt | hge
    · have e1 : decide ((i : Int) < (k : Int)) = true := by simp; omega
      have e0 : (heap_Heap.mk (H2 k want).l_ (H2 k want).used_ (H2 k want).most_) = H2 k want := rfl
      simp only [e1, ctr, e0]
      rw [Get_in (u := vN want[i]) (H2_hi hk) x1 (by omega) (by rw [H2_get1]; simp [hwl, hlt])]
      simp only [obs]
      rw [Get_in (u := v0) (H2_hi hk) x2 (by omega) (by rw [H2_get2]; simp [hlt])]
      simp only [obs, Bool.not_true, cfl, hs, idx_nat, List.getElem?_eq_getElem (show i < want.length by omega)]
      rw [w64s (x := (i : Int) + 1) (by omega) (by omega)]
      have e2 : ((vN want[i]).N != want[i]) = false := by simp [vN]
      rw [e2]
      simp only [cfl, obs, beq_self_eq_true, Bool.and_true, Bool.not_true]
      exact ih (i + 1) (by omega) (by omega)
    · have e1 : decide ((i : Int) < (k : Int)) = false := by simp; omega
      rw [e1]
      exact ⟨_, rfl, rfl⟩

def h200 : heap_Heap := ⟨[], 0, 200⟩
theorem new200 : heap_New.fn 200 = some h200 := by unfold heap_New.fn h200; simp
theorem h200_hi : HI h200 := ⟨by simp [h200], by simp [h200], by simp [h200], by simp [h200]⟩
theorem h200_used : h200.used_ = 0 := rfl
theorem h200_most : h200.most_ = 200 := rfl

theorem bonsailaw15_HeapStories_true (a : Int) (wa : (Lit.int .u8 a).wf = true) (l : List Int) (hl : l.length ≤ maxLen) (hw : ∀ y ∈ l, (Lit.int .u8 y).wf = true) (v : List Int) (hv : v.length ≤ maxLen) (hvw : ∀ y ∈ v, (Lit.int .i32 y).wf = true) :
    ∃ fu, bonsailaw15_HeapStories.fn fu a l v = some true := by
  refine ⟨60, ?_⟩
  unfold bonsailaw15_HeapStories.fn
  rw [known_true]
  simp only [obs, Bool.not_true, cfl]
  by_cases h30 : (l.length : Int) > 30
  · simp [h30]
  · have e : decide ((l.length : Int) > 30) = false := by simp; omega
    rw [e, cfl]
    by_cases h6 : (v.length : Int) < (l.length : Int)
    · simp [h6]
    · have e : decide ((v.length : Int) < (l.length : Int)) = false := by simp; omega
      have ha := u8_bounds wa
      have ht := tmod_nn (a := a) (b := 10) ha.1 (by decide)
      generalize Int.tmod a 10 = m at ht ⊢
      obtain ⟨m, rfl⟩ : ∃ q : Nat, m = (q : Int) := ⟨m.toNat, by omega⟩
      rw [w64s (x := (m : Int)) (by omega) (by omega), w64s (x := (m : Int) + 1) (by omega) (by omega)]
      rw [e, new200, mayMake_of (n := (m : Int) + 1) (b := 48) (by omega) (by omega)]
      have hrep : (List.replicate ((m : Int) + 1).toNat (GoZero.zero 97 (α := api_Field))).length = m + 1 := by rw [List.length_replicate]; omega
      simp only [obs, cfl, guardB, ctr]
      have hi0 : HI h200 := h200_hi
      have f1 : h200.used_ + (((List.replicate ((m : Int) + 1).toNat (GoZero.zero 97 (α := api_Field))).length : Nat) : Int) < h200.most_ := by
        rw [hrep, h200_used, h200_most]; omega
      rw [Object_yes hi0 f1, hrep]
      simp only [obs]
      have hi1 := hi0.hadd cA (n := ((m + 1 : Nat) : Int)) (by omega) (by rw [hrep] at f1; exact f1)
      have f2 : (hadd h200 cA ((m + 1 : Nat) : Int)).used_ + (((List.replicate ((m : Int) + 1).toNat (GoZero.zero 97 (α := api_Field))).length : Nat) : Int) < (hadd h200 cA ((m + 1 : Nat) : Int)).most_ := by
        rw [hrep]; show h200.used_ + (((m + 1 : Nat) : Int) + 1) + ((m + 1 : Nat) : Int) < h200.most_; rw [h200_used, h200_most]; omega
      rw [Object_yes hi1 f2, hrep]
      simp only [obs, Bool.not_true, cfl]
      have e2 : (hadd (hadd h200 cA ((m + 1 : Nat) : Int)) cB ((m + 1 : Nat) : Int)) = H2 (m + 1) (List.replicate (m + 1) 0) := by
        unfold hadd H2 h200
        simp only [List.nil_append, List.map_replicate, Int.toNat_natCast]
        congr 1
        simp; omega
      rw [e2, mayMake_of (n := (m : Int) + 1) (b := 4) (by omega) (by omega), ctr]
      rw [show (List.replicate ((m : Int) + 1).toNat (GoZero.zero 21 (α := Int))) = List.replicate (m + 1) 0 by rw [show ((m : Int) + 1).toNat = m + 1 by omega]; rfl]
      refine Ok.eq ?_
      refine Ok.lthen (stories_l0 60 l v (m + 1) (by omega) (by omega) _ rfl _ (by simp) (fun y hy => u8_bounds (hw y hy)) (by omega) (by omega) 60 (List.replicate (m + 1) 0) 0 (by simp) (by omega) (by omega)) (fun s hs => ?_)
      obtain ⟨want, hwl, rfl⟩ := hs
      refine Ok.lthen (stories_l1 60 (m + 1) (by omega) _ _ rfl rfl _ (by simp) want hwl _ rfl 60 0 (by omega) (by omega)) (fun s hs => ?_)
      subst hs
      show Ok _ ((heap_Heap_Class.fn (H2 (m + 1) want) x1).bind _)
      rw [Class_eq (H2_hi (by omega)), obs, H2_get1]
      simp only [beq_self_eq_true, ctr]
      show Ok _ (((heap_Heap_Class.fn (H2 (m + 1) want) x2).bind _).bind _)
      rw [Class_eq (H2_hi (by omega)), H2_get2]
      simp only [beq_self_eq_true, ctr, obs, Used_eq]
      rw [w64s (x := 2 * ((m : Int) + 1)) (by omega) (by omega), w64s (x := 2 * ((m : Int) + 1) + 2) (by omega) (by omega)]
      refine ⟨_, rfl, ?_⟩
      simp [H2]
end Go.Proofs.Ytgaldjnnfkdohaa
