/- HeapRoom: what it reckons is true. -/
import Derived.Test.YtgaldjnnfkdohaaHr
import Derived.Test.YtgaldjnnfkdohaaPureHeap
set_option linter.unusedVariables false
set_option linter.unusedSimpArgs false
namespace Go.Proofs.Ytgaldjnnfkdohaa
open Go Go.Fw

theorem w32_eq {x : Int} (h1 : -2147483648 ≤ x) (h2 : x ≤ 2147483647) : w32 x = x := by
  unfold w32 IntKind.wrap
  simp only [IntKind.bits, IntKind.signed]
  have e1 : (2 : Int) ^ 32 = 4294967296 := by decide
  have e2 : (2 : Int) ^ (32 - 1) = 2147483648 := by decide
  simp only [e1, e2]
  split
  · rename_i h; simp only [Bool.and_eq_true, decide_eq_true_eq, ge_iff_le] at h; omega
  · rename_i h; simp only [Bool.and_eq_true, decide_eq_true_eq, ge_iff_le, not_and, true_implies] at h; omega

theorem room_loop (fu : Nat) (p2 : List Int) (hw : ∀ y ∈ p2, 0 ≤ y ∧ y ≤ 255) (hlen : p2.length ≤ 40) (m : Int) : ∀ (k : Nat) (h : heap_Heap) (i : Nat), HI h → h.most_ = m → i ≤ p2.length → p2.length - i < k →
    Ok (LRp (fun _ => True) (fun r => r = true)) (bonsailaw15_HeapRoom.l0 fu p2 k m h.l_ h.used_ h.most_ h.used_ (h.l_.length : Int) (i : Int)) := by
  intro k
  induction k with
  | zero => intro h i _ _ _ hk; omega
  | succ k ih =>
    intro h i hi hm hle hk
    unfold bonsailaw15_HeapRoom.l0
    rcases Nat.lt_or_ge i p2.length with hlt | hge
    · have e1 : decide ((i : Int) < (p2.length : Int)) = true := by simp; omega
      have hx := hw _ (List.getElem_mem hlt)
      rw [e1, idx_nat, List.getElem?_eq_getElem hlt]
      generalize p2[i] = x at hx
      have hn := tmod_nn (a := x) (b := 9) hx.1 (by decide)
      simp only [Option.bind_some, cond_true]
      generalize Int.tmod x 9 = n at hn
      rw [w64s (x := n) (by omega) (by omega), w32_eq (x := n) (by omega) (by omega), w64s (x := (i : Int) + 1) (by omega) (by omega)]
      have := hi.m1; have := hi.u0; have := hi.um; have := hi.lu; have := hi.l1
      have hw1 := w64s (x := h.used_ + n) (by omega) (by omega)
      have hw2 := w64s (x := h.used_ + n + 1) (by omega) (by omega)
      have hw3 := w64s (x := (h.l_.length : Int) + 1) (by omega) (by omega)
      have hrep : (List.replicate n.toNat (GoZero.zero 97 (α := api_Field))).length = n.toNat := by simp
      have hcast : ((n.toNat : Nat) : Int) = n := Int.toNat_of_nonneg hn.1
      have hmk : (bif decide (x > 127) then ((heap_Heap_Array.fn (heap_Heap.mk h.l_ h.used_ h.most_) n).bind fun x1172 => some (x1172.2.2.l_, x1172.2.2.used_, x1172.2.2.most_, n, x1172.1.N, x1172.1.S, x1172.1.Ref, x1172.2.1)) else (guardB (mayMake n 48) ((heap_Heap_Object.fn (heap_Heap.mk h.l_ h.used_ h.most_) (⟨#[65]⟩ : ByteArray) (List.replicate n.toNat (GoZero.zero 97 (α := api_Field)))).bind fun x1192 => some (x1192.2.2.l_, x1192.2.2.used_, x1192.2.2.most_, n, x1192.1.N, x1192.1.S, x1192.1.Ref, x1192.2.1))))
          = if h.used_ + n < h.most_ then some ((hadd h (if x > 127 then ⟨#[]⟩ else ⟨#[65]⟩) n).l_, h.used_ + (n + 1), h.most_, n, 0, ByteArray.empty, (h.l_.length : Int) + 1, true) else some (h.l_, h.used_, h.most_, n, 0, ByteArray.empty, 0, false) := by
        have e0 : (heap_Heap.mk h.l_ h.used_ h.most_) = h := rfl
        rw [e0, mayMake_of hn.1 (by omega)]
        by_cases hf : h.used_ + n < h.most_
        · rw [if_pos hf, Array_yes hi hn.1 hf, Object_yes hi (by rw [hrep, hcast]; exact hf), hrep, hcast]
          by_cases h127 : x > 127
          · simp only [h127, decide_true, cond_true, if_true]; rfl
          · simp only [h127, decide_false, cond_false, if_false]; rfl
        · rw [if_neg hf, Array_no hi hn.1 (by omega) (by omega), Object_no hi (by rw [hrep, hcast]; omega)]
          cases decide (x > 127) <;> rfl
      rw [hmk]
      by_cases hf : h.used_ + n < h.most_
      · have hi2 := hi.hadd (if x > 127 then ⟨#[]⟩ else ⟨#[65]⟩) hn.1 hf
        have e2 : decide (h.used_ + n + 1 ≤ m) = true := by simp; omega
        simp only [if_pos hf, Option.bind_some, hw1, hw2, hw3, e2, beq_self_eq_true, Bool.not_true, cond_false, cond_true]
        have e3 : ((h.l_.length : Int) + 1 != (h.l_.length : Int) + 1) = false := by simp
        rw [e3]
        have e4 := Len_eq hi2 ⟨0, ByteArray.empty, (h.l_.length : Int) + 1⟩
        rw [show (heap_Heap.mk (hadd h (if x > 127 then ⟨#[]⟩ else ⟨#[65]⟩) n).l_ (h.used_ + (n + 1)) h.most_) = hadd h (if x > 127 then ⟨#[]⟩ else ⟨#[65]⟩) n from rfl, e4, hadd_get]
        simp only [if_true, List.length_replicate, hcast, cond_false, Option.bind_some, bne_self_eq_false, LR.then, LR.elim]
        rw [Used_eq]
        simp only [Option.bind_some]
        have e5 : (h.used_ + (n + 1) != h.used_ + n + 1) = false := by simp; omega
        show Ok _ (bif ((hadd h (if x > 127 then ⟨#[]⟩ else ⟨#[65]⟩) n).used_ != h.used_ + n + 1) then _ else _)
        rw [show (hadd h (if x > 127 then ⟨#[]⟩ else ⟨#[65]⟩) n).used_ = h.used_ + (n + 1) from rfl, e5]
        have := ih (hadd h (if x > 127 then ⟨#[]⟩ else ⟨#[65]⟩) n) (i + 1) hi2 hm (by omega) (by omega)
        rw [show (hadd h (if x > 127 then ⟨#[]⟩ else ⟨#[65]⟩) n).used_ = h.used_ + (n + 1) from rfl, show (((hadd h (if x > 127 then ⟨#[]⟩ else ⟨#[65]⟩) n).l_.length : Nat) : Int) = (h.l_.length : Int) + 1 by simp [hadd]] at this
        rw [show h.used_ + n + 1 = h.used_ + (n + 1) by omega]
        exact this
      · have e2 : decide (h.used_ + n + 1 ≤ m) = false := by simp; omega
        simp only [if_neg hf, Option.bind_some, hw1, hw2, hw3, e2, beq_self_eq_true, Bool.not_true, Bool.not_false, cond_false, cond_true, bne_self_eq_false, LR.then, LR.elim]
        rw [Used_eq]
        simp only [Option.bind_some, bne_self_eq_false, cond_false]
        exact ih h (i + 1) hi hm (by omega) (by omega)
    · have e1 : decide ((i : Int) < (p2.length : Int)) = false := by simp; omega
      rw [e1]
      exact ⟨_, rfl, trivial⟩

theorem bonsailaw15_HeapRoom_true (a : Int) (wa : (Lit.int .u8 a).wf = true) (l : List Int) (hl : l.length ≤ maxLen) (hw : ∀ y ∈ l, (Lit.int .u8 y).wf = true) : ∃ fu, bonsailaw15_HeapRoom.fn fu a l = some true := by
  refine ⟨1000, ?_⟩
  unfold bonsailaw15_HeapRoom.fn
  rw [known_true]
  simp only [Option.bind_some, Bool.not_true, cond_false]
  by_cases h40 : (l.length : Int) > 40
  · simp [h40]
  · have e : decide ((l.length : Int) > 40) = false := by simp; omega
    rw [e, cond_false, New_eq]
    have ha := u8_bounds wa
    have ht := tmod_nn (a := a) (b := 60) ha.1 (by decide)
    generalize Int.tmod a 60 = m at ht ⊢
    rw [w64s (by omega) (by omega)]
    simp only [Option.bind_some]
    have h1 := room_loop 1000 l (fun y hy => u8_bounds (hw y hy)) (by omega) m 1000 ⟨[], 0, if 0 > m then 0 else m⟩ 0 (HI.new (by omega)) (by show (if 0 > m then 0 else m) = m; rw [if_neg (by omega)]) (by omega) (by omega)
    have h2 : Ok (fun r => r = true) (LR.then (bonsailaw15_HeapRoom.l0 1000 l 1000 m [] 0 (if 0 > m then 0 else m) 0 0 0) fun s670 => (heap_Heap_Array.fn (heap_Heap.mk s670.1 s670.2.1 s670.2.2) (-1)).bind fun x1314 => (bif !x1314.2.1 then ((heap_New.fn (-5)).bind fun x1353 => (heap_Heap_Used.fn x1353).bind fun x1365 => some (x1365.1 == 0)) else (some false)).bind fun s1351 => some s1351) := by
      refine Ok.lthen h1 (fun s _ => ?_)
      rw [Array_neg (by decide)]
      exact ⟨_, rfl, rfl⟩
    obtain ⟨v, hv, rfl⟩ := h2
    exact hv
end Go.Proofs.Ytgaldjnnfkdohaa
