/- What rewrite.Method reckons, in closed form. -/
import Derived.Test.YtgaldjnnfkdohaaFg
import Derived.Test.YtgaldjnnfkdohaaPureBase
set_option linter.unusedVariables false
set_option linter.unusedSimpArgs false
namespace Go.Proofs.Ytgaldjnnfkdohaa
open Go Go.Fw

def jumpB (i : api_Instr) : Bool := i.Op == 19 || i.Op == 20

/-- what stands for an instruction -/
def seg (m : api_Method) (w : List (List api_Instr)) (i : Nat) : List api_Instr :=
  match w[i]? with
  | some s => bif Nat.blt 0 s.length then s else (m.Code[i]?).toList
  | none => (m.Code[i]?).toList

def cat (m : api_Method) (w : List (List api_Instr)) (i : Nat) : List api_Instr := (List.range i).flatMap (seg m w)
def bgl (m : api_Method) (w : List (List api_Instr)) (i : Nat) : List Int := (List.range i).map fun q => ((cat m w q).length : Int)

theorem cat_succ (m : api_Method) (w : List (List api_Instr)) (i : Nat) : cat m w (i + 1) = cat m w i ++ seg m w i := by
  unfold cat; rw [List.range_succ, List.flatMap_append]; simp
theorem bgl_succ (m : api_Method) (w : List (List api_Instr)) (i : Nat) : bgl m w (i + 1) = bgl m w i ++ [((cat m w i).length : Int)] := by
  unfold bgl; rw [List.range_succ, List.map_append]; rfl
theorem bgl_len (m : api_Method) (w : List (List api_Instr)) (i : Nat) : (bgl m w i).length = i := by simp [bgl]
theorem cat_mono (m : api_Method) (w : List (List api_Instr)) {i j : Nat} (h : i ≤ j) : (cat m w i).length ≤ (cat m w j).length := by
  induction j with
  | zero => have : i = 0 := by omega
            subst this; exact Nat.le_refl _
  | succ j ih =>
    by_cases e : i = j + 1
    · subst e; exact Nat.le_refl _
    · have := ih (by omega)
      rw [cat_succ, List.length_append]; omega

theorem jumps_eq (o : Int) : op_Jumps.fn o = some (o == 19 || o == 20) := by
  unfold op_Jumps.fn; cases h : (o == 19) <;> simp
theorem within_eq (k m : Int) : rewrite_within.fn k m = some (decide (0 ≤ k) && decide (k ≤ m)) := by
  unfold rewrite_within.fn
  by_cases h : 0 ≤ k
  · simp [h]
  · simp [h]

theorem bgl_at (m : api_Method) (w : List (List api_Instr)) {n : Nat} {k : Int} (h0 : 0 ≤ k) (h1 : k < n) : idx (bgl m w n) k = some ((cat m w k.toNat).length : Int) := by
  unfold idx
  rw [if_pos h0]
  have hlt : k.toNat < n := by omega
  simp [bgl, hlt]

theorem rew_l0 (fu : Nat) (m : api_Method) (w : List (List api_Instr)) (hn : m.Code.length ≤ 1000000) (hc : (cat m w m.Code.length).length ≤ 1000000) :
    ∀ (d k i : Nat), m.Code.length - i ≤ d → d < k → i ≤ m.Code.length → rewrite_Method.l0 fu m w k (cat m w i) (bgl m w i) i = some (cat m w m.Code.length, bgl m w m.Code.length) := by
  intro d
  induction d with
  | zero =>
    intro k i hi hk hin
    obtain ⟨k, rfl⟩ : ∃ q, k = q + 1 := ⟨k - 1, by omega⟩
    have e : i = m.Code.length := by omega
    subst e
    unfold rewrite_Method.l0
    rw [show decide (((m.Code.length : Nat) : Int) < (m.Code.length : Int)) = false by simp]
    rfl
  | succ d ih =>
    intro k i hi hk hin
    obtain ⟨k, rfl⟩ : ∃ q, k = q + 1 := ⟨k - 1, by omega⟩
    by_cases e : i = m.Code.length
    · subst e
      unfold rewrite_Method.l0
      rw [show decide (((m.Code.length : Nat) : Int) < (m.Code.length : Int)) = false by simp]
      rfl
    have hlt : i < m.Code.length := by omega
    unfold rewrite_Method.l0
    rw [show decide ((i : Int) < (m.Code.length : Int)) = true by simp; omega, w64_eq (x := (i : Int) + 1) (by omega) (by omega)]
    simp only [cond_true, idx_nat, List.getElem?_eq_getElem hlt, Option.bind_some]
    have hm := cat_mono m w (show i + 1 ≤ m.Code.length by omega)
    rw [cat_succ, List.length_append] at hm
    rw [roomy_of (by rw [bgl_len]; omega)]
    simp only [guardB, cond_true]
    have key : ((bif decide ((i : Int) < (w.length : Int)) then (w[i]?).bind fun x1050 => some (decide ((x1050.length : Int) > 0)) else some false).bind fun s1048 =>
        bif s1048 then (w[i]?).bind fun x1058 => bif roomy (cat m w i).length x1058.length 88 then some (cat m w i ++ x1058) else none
        else bif roomy (cat m w i).length 1 88 then some (cat m w i ++ ([m.Code[i]] : List api_Instr)) else none) = some (cat m w (i + 1)) := by
      rw [cat_succ]
      have hone : (m.Code[i]?).toList = [m.Code[i]] := by rw [List.getElem?_eq_getElem hlt]; rfl
      by_cases hw : i < w.length
      · rw [show decide ((i : Int) < (w.length : Int)) = true by simp; omega]
        simp only [cond_true, List.getElem?_eq_getElem hw, Option.bind_some]
        unfold seg at hm ⊢
        rw [List.getElem?_eq_getElem hw] at hm ⊢
        simp only at hm ⊢
        cases hb : Nat.blt 0 (w[i]).length with
        | true =>
          rw [hb] at hm
          have hp : 0 < (w[i]).length := by simpa using hb
          rw [show decide (((w[i]).length : Int) > 0) = true by simp; omega]
          simp only [cond_true] at hm ⊢
          rw [roomy_of (by omega)]
          rfl
        | false =>
          rw [hb] at hm
          have hp : (w[i]).length = 0 := by
            cases hl : (w[i]).length with
            | zero => rfl
            | succ q =>
              rw [hl] at hb
              rw [show Nat.blt 0 (q + 1) = Nat.ble 1 (q + 1) from rfl, Nat.ble_eq_true_of_le (show 1 ≤ q + 1 by omega)] at hb
              cases hb
          rw [show decide (((w[i]).length : Int) > 0) = false by simp [hp]]
          simp only [cond_false] at hm ⊢
          rw [hone] at hm ⊢
          rw [roomy_of (by simp at hm; omega)]
          rfl
      · rw [show decide ((i : Int) < (w.length : Int)) = false by simp; omega]
        simp only [cond_false, Option.bind_some]
        unfold seg at hm ⊢
        rw [List.getElem?_eq_none (by omega)] at hm ⊢
        simp only at hm ⊢
        rw [hone] at hm ⊢
        rw [roomy_of (by simp at hm; omega)]
        rfl
    rw [key]
    simp only [Option.bind_some]
    rw [← bgl_succ]
    have := ih k (i + 1) (by omega) (by omega) (by omega)
    rw [show ((i + 1 : Nat) : Int) = (i : Int) + 1 by omega] at this
    exact this

/-- an instruction with its place turned -/
def fixI (m : api_Method) (w : List (List api_Instr)) (i : api_Instr) : api_Instr :=
  bif jumpB i then ⟨i.Op, i.N, ((cat m w i.K.toNat).length : Int), i.S, i.Class, i.Name, i.Desc⟩ else i
def inR (n : Nat) (i : api_Instr) : Bool := !jumpB i || (decide (0 ≤ i.K) && decide (i.K ≤ (n : Int) - 1))

def zeroM : api_Method := api_Method.mk ByteArray.empty [] (api_Type.mk 0 ByteArray.empty) false false 0 ([] : List api_Instr) ([] : List api_Handler)

theorem take_fix {α : Type} {l : List α} {f : α → α} {i : Nat} (h : i < l.length) : ((l.take i).map f ++ l.drop i).set i (f l[i]) = (l.take (i + 1)).map f ++ l.drop (i + 1) := by
  have hlen : ((l.take i).map f).length = i := by simp; omega
  rw [List.set_append, if_neg (by omega), hlen, Nat.sub_self]
  rw [List.drop_eq_getElem_cons h, List.set_cons_zero, List.take_succ_eq_append_getElem h, List.map_append]
  simp

theorem take_fix_at {α : Type} {l : List α} {f : α → α} {i : Nat} (h : i < l.length) : ((l.take i).map f ++ l.drop i)[i]? = some l[i] := by
  have hlen : ((l.take i).map f).length = i := by simp; omega
  rw [List.getElem?_append_right (by omega), hlen, Nat.sub_self, List.getElem?_drop]
  simp [h]

theorem take_skip {α : Type} {l : List α} {f : α → α} {i : Nat} (h : i < l.length) (hf : f l[i] = l[i]) : (l.take i).map f ++ l.drop i = (l.take (i + 1)).map f ++ l.drop (i + 1) := by
  rw [← take_fix h, hf]
  have hlen : ((l.take i).map f).length = i := by simp; omega
  apply List.ext_getElem?
  intro q
  rw [List.getElem?_set]
  split
  · rename_i e; subst e
    rw [take_fix_at h]
    split
    · rfl
    · rename_i hn; exfalso; apply hn; simp; omega
  · rfl

theorem rew_l1 (fu : Nat) (m : api_Method) (w : List (List api_Instr)) (hn : m.Code.length ≤ 1000000) (C : List api_Instr) (hC : C.length ≤ 1000000) (hlast : (C.length : Int) = ((cat m w m.Code.length).length : Int)) :
    ∀ (d k i : Nat), C.length - i ≤ d → d < k → i ≤ C.length →
      rewrite_Method.l1 fu m (C, bgl m w m.Code.length) k ((C.take i).map (fixI m w) ++ C.drop i) i =
        if (C.drop i).all (inR m.Code.length) = true then some (.brk (C.map (fixI m w))) else some (.ret (zeroM, false)) := by
  intro d
  induction d with
  | zero =>
    intro k i hi hk hin
    obtain ⟨k, rfl⟩ : ∃ q, k = q + 1 := ⟨k - 1, by omega⟩
    have e : i = C.length := by omega
    subst e
    unfold rewrite_Method.l1
    simp
  | succ d ih =>
    intro k i hi hk hin
    obtain ⟨k, rfl⟩ : ∃ q, k = q + 1 := ⟨k - 1, by omega⟩
    by_cases e : i = C.length
    · subst e
      unfold rewrite_Method.l1
      simp
    have hlt : i < C.length := by omega
    have IH := ih k (i + 1) (by omega) (by omega) (by omega)
    rw [show ((i + 1 : Nat) : Int) = (i : Int) + 1 by omega] at IH
    unfold rewrite_Method.l1
    rw [show decide ((i : Int) < ((C, bgl m w m.Code.length).1.length : Int)) = true by simp; omega, w64_eq (x := (i : Int) + 1) (by omega) (by omega)]
    simp only [cond_true, idx_nat, take_fix_at hlt, Option.bind_some, jumps_eq, within_eq]
    rw [w64_eq (x := (m.Code.length : Int) - 1) (by omega) (by omega)]
    rw [List.drop_eq_getElem_cons hlt, List.all_cons]
    cases hj : jumpB C[i] with
    | false =>
      have hj' : (C[i].Op == 19 || C[i].Op == 20) = false := hj
      rw [hj']
      simp only [Bool.not_false, cond_true, LR.then, Option.bind_some, LR.elim]
      rw [show inR m.Code.length C[i] = true by simp [inR, hj]]
      simp only [Bool.true_and]
      rw [← IH, ← List.drop_eq_getElem_cons hlt, take_skip hlt (by simp [fixI, hj])]
    | true =>
      have hj' : (C[i].Op == 19 || C[i].Op == 20) = true := hj
      rw [hj']
      simp only [Bool.not_true, cond_false]
      cases hr : (decide (0 ≤ C[i].K) && decide (C[i].K ≤ (m.Code.length : Int) - 1)) with
      | false =>
        rw [show inR m.Code.length C[i] = false by simp only [inR, hj, hr]; rfl]
        simp [LR.then, LR.elim, LR.esc, zeroM]
      | true =>
        rw [show inR m.Code.length C[i] = true by simp only [inR, hj, hr]; rfl]
        simp only [Bool.and_eq_true, decide_eq_true_eq] at hr
        simp only [Bool.not_true, cond_false, Bool.true_and]
        rw [hlast, ← bgl_succ, bgl_at m w hr.1 (by omega)]
        simp only [Option.bind_some, LR.then, LR.elim]
        rw [← IH]
        congr 1
        rw [Int.toNat_natCast, ← List.drop_eq_getElem_cons hlt, ← take_fix hlt]
        simp only [fixI, hj, cond_true]

def fixH (m : api_Method) (w : List (List api_Instr)) (h : api_Handler) : api_Handler :=
  ⟨((cat m w h.From.toNat).length : Int), ((cat m w h.To.toNat).length : Int), ((cat m w h.At.toNat).length : Int), h.Catch⟩
def handR (n : Nat) (h : api_Handler) : Bool :=
  (decide (0 ≤ h.From) && decide (h.From ≤ (n : Int) - 1)) && ((decide (0 ≤ h.To) && decide (h.To ≤ (n : Int))) && (decide (0 ≤ h.At) && decide (h.At ≤ (n : Int) - 1)))

theorem idx_set {α : Type} {l : List α} {i : Nat} {x : α} (h : i < l.length) : idx (l.set i x) (i : Int) = some x := by
  rw [idx_nat]; simp [h]

theorem rew_l2 (fu : Nat) (m : api_Method) (w : List (List api_Instr)) (hn : m.Code.length ≤ 1000000) (C : List api_Instr) (hlast : (C.length : Int) = ((cat m w m.Code.length).length : Int)) (H : List api_Handler) (hH : H.length ≤ 1000000) :
    ∀ (d k i : Nat), H.length - i ≤ d → d < k → i ≤ H.length →
      rewrite_Method.l2 fu m (C, bgl m w m.Code.length) H k ((H.take i).map (fixH m w) ++ H.drop i) i =
        if (H.drop i).all (handR m.Code.length) = true then some (.brk (H.map (fixH m w))) else some (.ret (zeroM, false)) := by
  intro d
  induction d with
  | zero =>
    intro k i hi hk hin
    obtain ⟨k, rfl⟩ : ∃ q, k = q + 1 := ⟨k - 1, by omega⟩
    have e : i = H.length := by omega
    subst e
    unfold rewrite_Method.l2
    simp
  | succ d ih =>
    intro k i hi hk hin
    obtain ⟨k, rfl⟩ : ∃ q, k = q + 1 := ⟨k - 1, by omega⟩
    by_cases e : i = H.length
    · subst e
      unfold rewrite_Method.l2
      simp
    have hlt : i < H.length := by omega
    have IH := ih k (i + 1) (by omega) (by omega) (by omega)
    rw [show ((i + 1 : Nat) : Int) = (i : Int) + 1 by omega] at IH
    unfold rewrite_Method.l2
    rw [show decide ((i : Int) < (H.length : Int)) = true by simp; omega, w64_eq (x := (i : Int) + 1) (by omega) (by omega), w64_eq (x := (m.Code.length : Int) - 1) (by omega) (by omega)]
    have hidx : idx ((H.take i).map (fixH m w) ++ H.drop i) (i : Int) = some H[i] := by rw [idx_nat]; exact take_fix_at hlt
    have hlen : i < ((H.take i).map (fixH m w) ++ H.drop i).length := by simp; omega
    simp only [cond_true, hidx, Option.bind_some, within_eq, Int.toNat_natCast]
    rw [hlast, ← bgl_succ]
    rw [List.drop_eq_getElem_cons hlt, List.all_cons, ← List.drop_eq_getElem_cons hlt]
    have e2 : (bif !(decide (0 ≤ H[i].From) && decide (H[i].From ≤ (m.Code.length : Int) - 1)) then some true else some (!(decide (0 ≤ H[i].To) && decide (H[i].To ≤ (m.Code.length : Int))))).bind
        (fun s3074 => bif s3074 then some true else some (!(decide (0 ≤ H[i].At) && decide (H[i].At ≤ (m.Code.length : Int) - 1)))) = some (!handR m.Code.length H[i]) := by
      unfold handR
      cases (decide (0 ≤ H[i].From) && decide (H[i].From ≤ (m.Code.length : Int) - 1)) <;> cases (decide (0 ≤ H[i].To) && decide (H[i].To ≤ (m.Code.length : Int))) <;> rfl
    rw [← Option.bind_assoc, e2]
    simp only [Option.bind_some]
    cases hr : handR m.Code.length H[i] with
    | false => simp [LR.esc, zeroM]
    | true =>
      simp only [Bool.not_true, cond_false, Bool.true_and]
      simp only [handR, Bool.and_eq_true, decide_eq_true_eq] at hr
      rw [bgl_at m w hr.1.1 (by omega), bgl_at m w hr.2.1.1 (by omega), bgl_at m w hr.2.2.1 (by omega)]
      simp only [Option.bind_some]
      rw [idx_set hlen]
      simp only [Option.bind_some]
      rw [idx_set (by rw [List.length_set]; exact hlen)]
      simp only [Option.bind_some, List.set_set]
      rw [← IH]
      congr 1
      rw [← take_fix hlt]
      rfl

/-- rewrite.Method, in closed form -/
theorem rew_eq (fu : Nat) (m : api_Method) (w : List (List api_Instr)) (hn : m.Code.length ≤ 1000000) (hc : (cat m w m.Code.length).length ≤ 1000000) (hh : m.Handlers.length ≤ 1000000) (hfu : 1000001 < fu) :
    rewrite_Method.fn fu m w =
      if (cat m w m.Code.length).all (inR m.Code.length) = true ∧ m.Handlers.all (handR m.Code.length) = true ∧ (cat m w m.Code.length).length ≤ 2000 then
        some (⟨m.Name, m.Params, m.Ret, m.Static, m.Abstract, m.Locals, (cat m w m.Code.length).map (fixI m w), m.Handlers.map (fixH m w)⟩, true)
      else some (zeroM, false) := by
  unfold rewrite_Method.fn
  have h0 := rew_l0 fu m w hn hc m.Code.length fu 0 (by omega) (by omega) (by omega)
  have h1 := rew_l1 fu m w hn (cat m w m.Code.length) hc rfl (cat m w m.Code.length).length fu 0 (by omega) (by omega) (by omega)
  have h2 := rew_l2 fu m w hn (cat m w m.Code.length) rfl m.Handlers hh m.Handlers.length fu 0 (by omega) (by omega) (by omega)
  simp only [List.take_zero, List.map_nil, List.nil_append, List.drop_zero] at h1 h2
  rw [show (([] : List api_Instr)) = cat m w 0 from rfl, show (([] : List Int)) = bgl m w 0 from rfl]
  rw [show (0 : Int) = ((0 : Nat) : Int) from rfl, h0]
  simp only [Option.bind_some]
  rw [roomy_of (by rw [bgl_len]; omega), h1]
  simp only [guardB, cond_true]
  by_cases c1 : (cat m w m.Code.length).all (inR m.Code.length) = true
  · rw [if_pos c1]
    simp only [LR.then, Option.bind_some, LR.elim, slices_Clone_api_Handler_api_Handler.fn]
    rw [roomy_of (by simp; omega)]
    simp only [guardB, cond_true, Option.bind_some]
    rw [h2]
    by_cases c2 : m.Handlers.all (handR m.Code.length) = true
    · rw [if_pos c2]
      simp only [Option.bind_some, LR.elim, List.length_map]
      by_cases c3 : (cat m w m.Code.length).length ≤ 2000
      · rw [if_pos ⟨c1, c2, c3⟩, show decide (((cat m w m.Code.length).length : Int) > 2000) = false by simp; omega]
        rfl
      · rw [if_neg (fun h => c3 h.2.2), show decide (((cat m w m.Code.length).length : Int) > 2000) = true by simp; omega]
        rfl
    · rw [if_neg c2, if_neg (fun h => c2 h.2.1)]
      rfl
  · rw [if_neg c1, if_neg (fun h => c1 h.1)]
    rfl

end Go.Proofs.Ytgaldjnnfkdohaa
