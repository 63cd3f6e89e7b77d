/- What RewriteTwice reckons is true, whatever it is told. -/
import Derived.Test.YtgaldjnnfkdohaaFi
import Derived.Test.YtgaldjnnfkdohaaPureArc
import Derived.Test.YtgaldjnnfkdohaaPureRew
import Derived.Test.YtgaldjnnfkdohaaPureSame
set_option linter.unusedVariables false
set_option linter.unusedSimpArgs false
namespace Go.Proofs.Ytgaldjnnfkdohaa
open Go Go.Fw

abbrev iNo : api_Instr := api_Instr.mk 3 0 0 ByteArray.empty ByteArray.empty ByteArray.empty ByteArray.empty
abbrev iPop : api_Instr := api_Instr.mk 6 0 0 ByteArray.empty ByteArray.empty ByteArray.empty ByteArray.empty

/-- two come in ahead of p -/
def ins (p : Nat) (l : List api_Instr) : List api_Instr := l.take p ++ (iNo :: iPop :: l.drop p)

theorem ins_len {p : Nat} {l : List api_Instr} : (ins p l).length = l.length + 2 := by
  unfold ins; simp; omega
theorem ins_map {p : Nat} {l : List api_Instr} {f : api_Instr → api_Instr} (h1 : f iNo = iNo) (h2 : f iPop = iPop) : ins p (l.map f) = (ins p l).map f := by
  unfold ins; simp [h1, h2, List.map_take, List.map_drop]
theorem ins_mem {p : Nat} {l : List api_Instr} {x : api_Instr} (h : x ∈ ins p l) : x = iNo ∨ x = iPop ∨ x ∈ l := by
  unfold ins at h
  rcases List.mem_append.1 h with h | h
  · exact .inr (.inr (List.mem_of_mem_take h))
  · rcases List.mem_cons.1 h with h | h
    · exact .inl h
    · rcases List.mem_cons.1 h with h | h
      · exact .inr (.inl h)
      · exact .inr (.inr (List.mem_of_mem_drop h))

/-- how a method's instructions are told, one by one -/
theorem seg_plain {m : api_Method} {w : List (List api_Instr)} {q : Nat} (h : w[q]? = some [] ∨ w[q]? = none) : seg m w q = (m.Code[q]?).toList := by
  unfold seg
  rcases h with h | h <;> rw [h] <;> rfl
theorem seg_full {m : api_Method} {w : List (List api_Instr)} {q : Nat} {s : List api_Instr} (h : w[q]? = some s) (hs : Nat.blt 0 s.length = true) : seg m w q = s := by
  unfold seg
  rw [h]; simp only [hs, cond_true]

theorem cat_one {m : api_Method} {w : List (List api_Instr)} {p : Nat} (hp : p < m.Code.length) (hw : w[p]? = some [iNo, iPop, m.Code[p]]) (ho : ∀ q, q < m.Code.length → q ≠ p → w[q]? = some []) :
    ∀ q, q ≤ m.Code.length → cat m w q = if q ≤ p then m.Code.take q else m.Code.take p ++ (iNo :: iPop :: (m.Code.drop p).take (q - p)) := by
  intro q
  induction q with
  | zero => intro _; simp [cat]
  | succ q ih =>
    intro hq
    rw [cat_succ, ih (by omega)]
    by_cases h1 : q = p
    · subst h1
      rw [if_pos (Nat.le_refl _), if_neg (by omega), seg_full hw rfl, show q + 1 - q = 1 by omega]
      rw [List.drop_eq_getElem_cons hp]; rfl
    · rw [seg_plain (.inl (ho q (by omega) h1)), List.getElem?_eq_getElem (by omega)]
      by_cases h2 : q ≤ p
      · rw [if_pos h2, if_pos (by omega)]
        rw [List.take_succ_eq_append_getElem (by omega)]; rfl
      · rw [if_neg h2, if_neg (by omega)]
        rw [show q + 1 - p = (q - p) + 1 by omega, List.take_succ_eq_append_getElem (by simp; omega)]
        simp only [List.append_assoc, List.cons_append, Option.toList_some, List.getElem_drop]
        congr 3
        simp
        congr 1
        omega

theorem cat_one_len {m : api_Method} {w : List (List api_Instr)} {p : Nat} (hp : p < m.Code.length) (hw : w[p]? = some [iNo, iPop, m.Code[p]]) (ho : ∀ q, q < m.Code.length → q ≠ p → w[q]? = some []) {q : Nat} (hq : q ≤ m.Code.length) :
    (cat m w q).length = q + if p < q then 2 else 0 := by
  rw [cat_one hp hw ho q hq]
  by_cases h : q ≤ p
  · rw [if_pos h, if_neg (by omega)]; simp; omega
  · rw [if_neg h, if_pos (by omega)]; simp; omega

theorem cat_one_all {m : api_Method} {w : List (List api_Instr)} {p : Nat} (hp : p < m.Code.length) (hw : w[p]? = some [iNo, iPop, m.Code[p]]) (ho : ∀ q, q < m.Code.length → q ≠ p → w[q]? = some []) :
    cat m w m.Code.length = ins p m.Code := by
  rw [cat_one hp hw ho _ (Nat.le_refl _), if_neg (by omega)]
  unfold ins
  rw [List.take_of_length_le (show (m.Code.drop p).length ≤ m.Code.length - p by simp)]

theorem cat_two {m : api_Method} {w : List (List api_Instr)} {i j : Nat} (hij : i < j) (hj : j < m.Code.length) (hi : i < m.Code.length) (hwi : w[i]? = some [iNo, iPop, m.Code[i]]) (hwj : w[j]? = some [iNo, iPop, m.Code[j]])
    (ho : ∀ q, q < m.Code.length → q ≠ i → q ≠ j → w[q]? = some []) :
    ∀ q, q ≤ m.Code.length → cat m w q = if q ≤ i then m.Code.take q else if q ≤ j then m.Code.take i ++ (iNo :: iPop :: (m.Code.drop i).take (q - i)) else
      m.Code.take i ++ (iNo :: iPop :: ((m.Code.drop i).take (j - i) ++ (iNo :: iPop :: (m.Code.drop j).take (q - j)))) := by
  intro q
  induction q with
  | zero => intro _; simp [cat]
  | succ q ih =>
    intro hq
    rw [cat_succ, ih (by omega)]
    by_cases h1 : q = i
    · subst h1
      rw [if_pos (Nat.le_refl _), if_neg (by omega), if_pos (by omega), seg_full hwi rfl, show q + 1 - q = 1 by omega]
      rw [List.drop_eq_getElem_cons hi]; rfl
    by_cases h3 : q = j
    · subst h3
      rw [if_neg (by omega), if_pos (by omega), if_neg (by omega), if_neg (by omega), seg_full hwj rfl, show q + 1 - q = 1 by omega]
      simp
      rw [List.drop_eq_getElem_cons hj]; rfl
    rw [seg_plain (.inl (ho q (by omega) h1 h3)), List.getElem?_eq_getElem (by omega)]
    by_cases h2 : q ≤ i
    · rw [if_pos h2, if_pos (by omega)]
      rw [List.take_succ_eq_append_getElem (by omega)]; rfl
    rw [if_neg h2, if_neg (show ¬ q + 1 ≤ i by omega)]
    by_cases h4 : q ≤ j
    · rw [if_pos h4, if_pos (show q + 1 ≤ j by omega)]
      rw [show q + 1 - i = (q - i) + 1 by omega, List.take_succ_eq_append_getElem (by simp; omega)]
      simp only [List.append_assoc, List.cons_append, Option.toList_some, List.getElem_drop]
      congr 3
      simp
      congr 1
      omega
    · rw [if_neg h4, if_neg (show ¬ q + 1 ≤ j by omega)]
      rw [show q + 1 - j = (q - j) + 1 by omega, List.take_succ_eq_append_getElem (by simp; omega)]
      simp only [List.append_assoc, List.cons_append, Option.toList_some, List.getElem_drop]
      congr 3
      congr 3
      simp
      congr 1
      omega

theorem cat_two_len {m : api_Method} {w : List (List api_Instr)} {i j : Nat} (hij : i < j) (hj : j < m.Code.length) (hi : i < m.Code.length) (hwi : w[i]? = some [iNo, iPop, m.Code[i]]) (hwj : w[j]? = some [iNo, iPop, m.Code[j]])
    (ho : ∀ q, q < m.Code.length → q ≠ i → q ≠ j → w[q]? = some []) {q : Nat} (hq : q ≤ m.Code.length) :
    (cat m w q).length = q + (if i < q then 2 else 0) + if j < q then 2 else 0 := by
  rw [cat_two hij hj hi hwi hwj ho q hq]
  by_cases h : q ≤ i
  · rw [if_pos h, if_neg (show ¬ i < q by omega), if_neg (show ¬ j < q by omega)]; simp; omega
  rw [if_neg h, if_pos (show i < q by omega)]
  by_cases h2 : q ≤ j
  · rw [if_pos h2, if_neg (show ¬ j < q by omega)]; simp; omega
  · rw [if_neg h2, if_pos (show j < q by omega)]; simp; omega

theorem cat_two_all {m : api_Method} {w : List (List api_Instr)} {i j : Nat} (hij : i < j) (hj : j < m.Code.length) (hi : i < m.Code.length) (hwi : w[i]? = some [iNo, iPop, m.Code[i]]) (hwj : w[j]? = some [iNo, iPop, m.Code[j]])
    (ho : ∀ q, q < m.Code.length → q ≠ i → q ≠ j → w[q]? = some []) :
    cat m w m.Code.length = ins (j + 2) (ins i m.Code) := by
  rw [cat_two hij hj hi hwi hwj ho _ (Nat.le_refl _), if_neg (by omega), if_neg (by omega)]
  have e1 : (ins i m.Code).take (j + 2) = m.Code.take i ++ (iNo :: iPop :: (m.Code.drop i).take (j - i)) := by
    unfold ins
    rw [List.take_append, List.take_of_length_le (by simp; omega)]
    congr 1
    have : j + 2 - (m.Code.take i).length = (j - i) + 2 := by simp; omega
    rw [this]; rfl
  have e2 : (ins i m.Code).drop (j + 2) = m.Code.drop j := by
    unfold ins
    rw [List.drop_append, List.drop_of_length_le (by simp; omega), List.nil_append]
    have : j + 2 - (m.Code.take i).length = (j - i) + 2 := by simp; omega
    rw [this]
    show (m.Code.drop i).drop (j - i) = _
    rw [List.drop_drop]; congr 1; omega
  show _ = (ins i m.Code).take (j + 2) ++ (iNo :: iPop :: (ins i m.Code).drop (j + 2))
  rw [e1, e2]
  rw [List.take_of_length_le (show (m.Code.drop j).length ≤ m.Code.length - j by simp)]
  simp


/-- where a place is, behind two that came in ahead of p -/
def mv (p : Nat) (k : Int) : Int := k + if (p : Int) < k then 2 else 0
def mvI (p : Nat) (i : api_Instr) : api_Instr := bif jumpB i then ⟨i.Op, i.N, mv p i.K, i.S, i.Class, i.Name, i.Desc⟩ else i
def mvH (p : Nat) (h : api_Handler) : api_Handler := ⟨mv p h.From, mv p h.To, mv p h.At, h.Catch⟩
def jumpsIn (n : Nat) (l : List api_Instr) : Prop := ∀ i ∈ l, jumpB i = true → 0 ≤ i.K ∧ i.K < n
def handsIn (n : Nat) (l : List api_Handler) : Prop := ∀ x ∈ l, 0 ≤ x.From ∧ x.From < n ∧ 0 ≤ x.To ∧ x.To ≤ n ∧ 0 ≤ x.At ∧ x.At < n

theorem inR_of {n : Nat} {i : api_Instr} (h : jumpB i = true → 0 ≤ i.K ∧ i.K < n) : inR n i = true := by
  unfold inR
  cases hj : jumpB i with
  | false => rfl
  | true => have := h hj; simp; omega

theorem handR_of {n : Nat} {x : api_Handler} (h : 0 ≤ x.From ∧ x.From < n ∧ 0 ≤ x.To ∧ x.To ≤ n ∧ 0 ≤ x.At ∧ x.At < n) : handR n x = true := by
  unfold handR
  simp; omega

theorem mv_eq {p : Nat} {k : Int} (h : 0 ≤ k) : mv p k = ((k.toNat + if p < k.toNat then 2 else 0 : Nat) : Int) := by
  unfold mv
  by_cases h1 : (p : Int) < k
  · rw [if_pos h1, if_pos (by omega)]; omega
  · rw [if_neg h1, if_neg (by omega)]; omega

/-- a method with two more ahead of p -/
def insM (p : Nat) (m : api_Method) : api_Method := ⟨m.Name, m.Params, m.Ret, m.Static, m.Abstract, m.Locals, (ins p m.Code).map (mvI p), m.Handlers.map (mvH p)⟩

theorem rew_ins {fu : Nat} {m : api_Method} {w : List (List api_Instr)} {p : Nat} (hfu : 100001 < fu) (hn : m.Code.length ≤ 1990) (hh : m.Handlers.length ≤ 100000) (hj : jumpsIn m.Code.length m.Code) (hH : handsIn m.Code.length m.Handlers)
    (hp : p < m.Code.length) (hw : w[p]? = some [iNo, iPop, m.Code[p]]) (ho : ∀ q, q < m.Code.length → q ≠ p → w[q]? = some []) : rewrite_Method.fn fu m w = some (insM p m, true) := by
  have hall := cat_one_all hp hw ho
  have hlen : ∀ q, q ≤ m.Code.length → (cat m w q).length = q + if p < q then 2 else 0 := fun q hq => cat_one_len hp hw ho hq
  have hmem : ∀ x ∈ ins p m.Code, jumpB x = true → 0 ≤ x.K ∧ x.K < m.Code.length := fun x hx hb => by
    rcases ins_mem hx with rfl | rfl | hx
    · cases hb
    · cases hb
    · exact hj x hx hb
  rw [rew_eq fu m w (by omega) (by rw [hall, ins_len]; omega) hh hfu, hall]
  rw [if_pos ⟨List.all_eq_true.2 (fun x hx => inR_of (hmem x hx)), List.all_eq_true.2 (fun x hx => handR_of (hH x hx)), by rw [ins_len]; omega⟩]
  congr 3
  · apply List.map_congr_left
    intro x hx
    unfold fixI mvI
    cases hb : jumpB x with
    | false => rfl
    | true =>
      have := hmem x hx hb
      simp only [cond_true]
      rw [hlen _ (by omega), mv_eq this.1]
  · apply List.map_congr_left
    intro x hx
    have := hH x hx
    unfold fixH mvH
    rw [hlen _ (by omega), hlen _ (by omega), hlen _ (by omega), mv_eq this.1, mv_eq this.2.2.1, mv_eq this.2.2.2.2.1]

theorem mvI_jump {p : Nat} {i : api_Instr} : jumpB (mvI p i) = jumpB i := by
  unfold mvI; cases h : jumpB i with
  | false => exact h
  | true => exact h

theorem mv_lt {p n : Nat} {k : Int} (hp : p < n) (h0 : 0 ≤ k) (h : k < n) : 0 ≤ mv p k ∧ mv p k < (n + 2 : Nat) := by
  unfold mv; split <;> omega
theorem mv_le {p n : Nat} {k : Int} (hp : p < n) (h0 : 0 ≤ k) (h : k ≤ n) : 0 ≤ mv p k ∧ mv p k ≤ (n + 2 : Nat) := by
  unfold mv; split <;> omega

theorem insM_len {p : Nat} {m : api_Method} : (insM p m).Code.length = m.Code.length + 2 := by simp [insM, ins_len]
theorem insM_jumps {p : Nat} {m : api_Method} (hp : p < m.Code.length) (hj : jumpsIn m.Code.length m.Code) : jumpsIn (insM p m).Code.length (insM p m).Code := by
  intro x hx hb
  obtain ⟨y, hy, rfl⟩ := List.mem_map.1 (show x ∈ (ins p m.Code).map (mvI p) from hx)
  rw [mvI_jump] at hb
  have : 0 ≤ y.K ∧ y.K < m.Code.length := by
    rcases ins_mem hy with rfl | rfl | hy
    · cases hb
    · cases hb
    · exact hj y hy hb
  rw [insM_len]
  unfold mvI; rw [hb]
  exact mv_lt hp this.1 this.2
theorem insM_hands {p : Nat} {m : api_Method} (hp : p < m.Code.length) (hH : handsIn m.Code.length m.Handlers) : handsIn (insM p m).Code.length (insM p m).Handlers := by
  intro x hx
  obtain ⟨y, hy, rfl⟩ := List.mem_map.1 (show x ∈ m.Handlers.map (mvH p) from hx)
  obtain ⟨h1, h2, h3, h4, h5, h6⟩ := hH y hy
  rw [insM_len]
  have a := mv_lt hp h1 h2; have b := mv_le hp h3 h4; have c := mv_lt hp h5 h6
  exact ⟨a.1, a.2, b.1, b.2, c.1, c.2⟩

theorem rew_both {fu : Nat} {m : api_Method} {w : List (List api_Instr)} {i j : Nat} (hfu : 100001 < fu) (hn : m.Code.length ≤ 1990) (hh : m.Handlers.length ≤ 100000) (hjm : jumpsIn m.Code.length m.Code) (hH : handsIn m.Code.length m.Handlers)
    (hij : i < j) (hj : j < m.Code.length) (hi : i < m.Code.length) (hwi : w[i]? = some [iNo, iPop, m.Code[i]]) (hwj : w[j]? = some [iNo, iPop, m.Code[j]])
    (ho : ∀ q, q < m.Code.length → q ≠ i → q ≠ j → w[q]? = some []) : rewrite_Method.fn fu m w = some (insM (j + 2) (insM i m), true) := by
  have hall := cat_two_all hij hj hi hwi hwj ho
  have hlen : ∀ q, q ≤ m.Code.length → (cat m w q).length = q + (if i < q then 2 else 0) + if j < q then 2 else 0 := fun q hq => cat_two_len hij hj hi hwi hwj ho hq
  have hmem : ∀ x ∈ ins (j + 2) (ins i m.Code), jumpB x = true → 0 ≤ x.K ∧ x.K < m.Code.length := fun x hx hb => by
    rcases ins_mem hx with rfl | rfl | hx
    · cases hb
    · cases hb
    · rcases ins_mem hx with rfl | rfl | hx
      · cases hb
      · cases hb
      · exact hjm x hx hb
  have hmv : ∀ k : Int, 0 ≤ k → k ≤ m.Code.length → ((cat m w k.toNat).length : Int) = mv (j + 2) (mv i k) := by
    intro k h0 h1
    rw [hlen _ (by omega)]
    unfold mv
    by_cases c1 : (i : Int) < k
    · rw [if_pos c1, if_pos (show i < k.toNat by omega)]
      by_cases c2 : (j : Int) < k
      · rw [if_pos (show j < k.toNat by omega), if_pos (by omega)]; omega
      · rw [if_neg (show ¬ j < k.toNat by omega), if_neg (by omega)]; omega
    · rw [if_neg c1, if_neg (show ¬ i < k.toNat by omega), if_neg (show ¬ j < k.toNat by omega), if_neg (by omega)]; omega
  rw [rew_eq fu m w (by omega) (by rw [hall, ins_len, ins_len]; omega) hh hfu, hall]
  rw [if_pos ⟨List.all_eq_true.2 (fun x hx => inR_of (hmem x hx)), List.all_eq_true.2 (fun x hx => handR_of (hH x hx)), by rw [ins_len, ins_len]; omega⟩]
  unfold insM
  congr 3
  · rw [ins_map (show mvI i iNo = iNo from rfl) (show mvI i iPop = iPop from rfl), List.map_map]
    apply List.map_congr_left
    intro x hx
    unfold fixI
    cases hb : jumpB x with
    | false => simp [mvI, hb]
    | true =>
      have := hmem x hx hb
      simp only [cond_true, Function.comp_apply]
      rw [hmv _ this.1 (by omega)]
      have e1 : mvI i x = ⟨x.Op, x.N, mv i x.K, x.S, x.Class, x.Name, x.Desc⟩ := by unfold mvI; rw [hb]; rfl
      have e2 : jumpB (mvI i x) = true := by rw [mvI_jump]; exact hb
      unfold mvI at e2 ⊢
      rw [hb] at e2 ⊢
      simp only [cond_true] at e2 ⊢
      rw [e2]; rfl
  · rw [List.map_map]
    apply List.map_congr_left
    intro x hx
    have := hH x hx
    unfold fixH mvH
    simp only [Function.comp_apply]
    rw [hmv _ this.1 (by omega), hmv _ this.2.2.1 (by omega), hmv _ this.2.2.2.2.1 (by omega)]

end Go.Proofs.Ytgaldjnnfkdohaa
