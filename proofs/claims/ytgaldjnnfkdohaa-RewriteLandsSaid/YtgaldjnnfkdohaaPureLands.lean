/- What RewriteLands reckons is true, whatever it is told: the law. -/
import Derived.Test.YtgaldjnnfkdohaaFj
import Derived.Test.YtgaldjnnfkdohaaPureCom
set_option linter.unusedVariables false
set_option linter.unusedSimpArgs false
namespace Go.Proofs.Ytgaldjnnfkdohaa
open Go Go.Fw

abbrev jNo : api_Instr := api_Instr.mk 3 0 0 ByteArray.empty ByteArray.empty ByteArray.empty ByteArray.empty
abbrev jPop : api_Instr := api_Instr.mk 6 0 0 ByteArray.empty ByteArray.empty ByteArray.empty ByteArray.empty

def pairs : Nat → List api_Instr
  | 0 => []
  | c + 1 => pairs c ++ [jNo, jPop]
theorem pairs_len (c : Nat) : (pairs c).length = 2 * c := by
  induction c with
  | zero => rfl
  | succ c ih => simp only [pairs, List.length_append, ih, List.length_cons, List.length_nil]; omega
theorem pairs_mem {c : Nat} {x : api_Instr} (h : x ∈ pairs c) : jumpB x = false := by
  induction c with
  | zero => cases h
  | succ c ih =>
    rcases List.mem_append.1 h with h | h
    · exact ih h
    · simp only [List.mem_cons, List.not_mem_nil, or_false] at h
      rcases h with rfl | rfl <;> rfl

theorem lands_l0 (fu n p c : Nat) (hp : p < n) (hc : c ≤ 1000) : ∀ (d k i : Nat), c - i ≤ d → d < k → i ≤ c →
    bonsailaw19_RewriteLands.l0 fu k (p : Int) (c : Int) ((List.replicate n ([] : List api_Instr)).set p (pairs i)) (i : Int) = some ((p : Int), (c : Int), (List.replicate n ([] : List api_Instr)).set p (pairs c)) := by
  intro d
  induction d with
  | zero =>
    intro k i hi hk hin
    obtain ⟨k, rfl⟩ : ∃ q, k = q + 1 := ⟨k - 1, by omega⟩
    have e : i = c := by omega
    subst e
    unfold bonsailaw19_RewriteLands.l0
    simp
  | succ d ih =>
    intro k i hi hk hin
    obtain ⟨k, rfl⟩ : ∃ q, k = q + 1 := ⟨k - 1, by omega⟩
    by_cases e : i = c
    · subst e
      unfold bonsailaw19_RewriteLands.l0
      simp
    unfold bonsailaw19_RewriteLands.l0
    rw [show decide ((i : Int) < (c : Int)) = true by simp; omega, w64_eq (x := (i : Int) + 1) (by omega) (by omega)]
    simp only [cond_true, idx_nat]
    rw [List.getElem?_set_self (by simpa using hp)]
    simp only [Option.bind_some]
    rw [roomy_of (by rw [pairs_len]; omega)]
    simp only [guardB, cond_true, Int.toNat_natCast, List.set_set]
    have := ih k (i + 1) (by omega) (by omega) (by omega)
    rw [show ((i + 1 : Nat) : Int) = (i : Int) + 1 by omega] at this
    exact this

theorem rep_get' {n : Nat} {q : Nat} (h : q < n) : (List.replicate n ([] : List api_Instr))[q]? = some [] := by simp [h]

theorem cat_pre {m : api_Method} {w : List (List api_Instr)} {p : Nat} {pre : List api_Instr} (hp : p < m.Code.length) (hw : w[p]? = some (pre ++ [m.Code[p]])) (ho : ∀ q, q < m.Code.length → q ≠ p → w[q]? = some []) :
    ∀ q, q ≤ m.Code.length → cat m w q = if q ≤ p then m.Code.take q else m.Code.take p ++ (pre ++ (m.Code.drop p).take (q - p)) := by
  intro q
  induction q with
  | zero => intro _; simp [cat]
  | succ q ih =>
    intro hq
    rw [cat_succ, ih (by omega)]
    by_cases h1 : q = p
    · subst h1
      rw [if_pos (Nat.le_refl _), if_neg (by omega), seg_full hw (by
        have : 0 < (pre ++ [m.Code[q]]).length := by simp
        exact Nat.ble_eq_true_of_le this), show q + 1 - q = 1 by omega]
      rw [List.drop_eq_getElem_cons hp]; rfl
    · rw [seg_plain (.inl (ho q (by omega) h1)), List.getElem?_eq_getElem (by omega)]
      by_cases h2 : q ≤ p
      · rw [if_pos h2, if_pos (by omega)]
        rw [List.take_succ_eq_append_getElem (by omega)]; rfl
      · rw [if_neg h2, if_neg (by omega)]
        rw [show q + 1 - p = (q - p) + 1 by omega, List.take_succ_eq_append_getElem (by simp; omega)]
        simp only [List.append_assoc, List.cons_append, Option.toList_some, List.getElem_drop]
        congr 3
        simp
        congr 1
        omega

theorem moved_eq {k : Int} {p c : Nat} (h0 : -100000 ≤ k) (h1 : k ≤ 100000) (hc : c ≤ 1000) : bonsailaw19_moved.fn k (p : Int) (c : Int) = some (if (p : Int) < k then k + 2 * c else k) := by
  unfold bonsailaw19_moved.fn
  rw [w64_eq (x := 2 * (c : Int)) (by omega) (by omega), w64_eq (x := k + 2 * (c : Int)) (by omega) (by omega)]
  by_cases h : (p : Int) < k
  · rw [show decide (k > (p : Int)) = true by simpa using h, if_pos h]; rfl
  · rw [show decide (k > (p : Int)) = false by simpa using h, if_neg h]; rfl

theorem jumps1_eq (o : Int) : bonsairef1_Jumps.fn o = some (o == 19 || o == 20) := by
  unfold bonsairef1_Jumps.fn; cases h : (o == 19) <;> simp

/-- what becomes of a method -/
structure Landed (m y : api_Method) (p c : Nat) : Prop where
  code : ∀ (i : Nat) (h : i < m.Code.length), y.Code[if p ≤ i then i + 2 * c else i]? = some (bif jumpB m.Code[i] then ⟨m.Code[i].Op, m.Code[i].N, if (p : Int) < m.Code[i].K then m.Code[i].K + 2 * c else m.Code[i].K, m.Code[i].S, m.Code[i].Class, m.Code[i].Name, m.Code[i].Desc⟩ else m.Code[i])
  hand : ∀ (i : Nat) (h : i < m.Handlers.length), y.Handlers[i]? = some ⟨(if (p : Int) < m.Handlers[i].From then m.Handlers[i].From + 2 * c else m.Handlers[i].From), (if (p : Int) < m.Handlers[i].To then m.Handlers[i].To + 2 * c else m.Handlers[i].To), (if (p : Int) < m.Handlers[i].At then m.Handlers[i].At + 2 * c else m.Handlers[i].At), m.Handlers[i].Catch⟩
  len : y.Code.length = m.Code.length + 2 * c
  hlen : y.Handlers.length = m.Handlers.length

theorem lands_rew {fu : Nat} {m : api_Method} {p c : Nat} (hfu : 100001 < fu) (hn : m.Code.length ≤ 1000) (hc : c ≤ 400) (hh : m.Handlers.length ≤ 100000) (hj : jumpsIn m.Code.length m.Code) (hH : handsIn m.Code.length m.Handlers) (hp : p < m.Code.length) :
    Ok (fun r => r.2 = true ∧ Landed m r.1 p c) (rewrite_Method.fn fu m ((List.replicate m.Code.length ([] : List api_Instr)).set p (pairs c ++ [m.Code[p]]))) := by
  have hw : ((List.replicate m.Code.length ([] : List api_Instr)).set p (pairs c ++ [m.Code[p]]))[p]? = some (pairs c ++ [m.Code[p]]) := by rw [List.getElem?_set_self (by simpa using hp)]
  have ho : ∀ q, q < m.Code.length → q ≠ p → ((List.replicate m.Code.length ([] : List api_Instr)).set p (pairs c ++ [m.Code[p]]))[q]? = some [] := fun q hq hne => by rw [List.getElem?_set_ne (by omega)]; exact rep_get' hq
  generalize (List.replicate m.Code.length ([] : List api_Instr)).set p (pairs c ++ [m.Code[p]]) = w at hw ho
  have hcat := cat_pre hp hw ho
  have hall : cat m w m.Code.length = m.Code.take p ++ (pairs c ++ m.Code.drop p) := by
    rw [hcat _ (Nat.le_refl _), if_neg (by omega), List.take_of_length_le (show (m.Code.drop p).length ≤ m.Code.length - p by simp)]
  have hlen : ∀ q, q ≤ m.Code.length → (cat m w q).length = if p < q then q + 2 * c else q := fun q hq => by
    rw [hcat q hq]
    by_cases h : q ≤ p
    · rw [if_pos h, if_neg (show ¬ p < q by omega)]; simp; omega
    · rw [if_neg h, if_pos (show p < q by omega)]; simp [pairs_len]; omega
  have hmem : ∀ x ∈ m.Code.take p ++ (pairs c ++ m.Code.drop p), jumpB x = true → 0 ≤ x.K ∧ x.K < m.Code.length := fun x hx hb => by
    rcases List.mem_append.1 hx with hx | hx
    · exact hj x (List.mem_of_mem_take hx) hb
    · rcases List.mem_append.1 hx with hx | hx
      · rw [pairs_mem hx] at hb; cases hb
      · exact hj x (List.mem_of_mem_drop hx) hb
  have hmv : ∀ k : Int, 0 ≤ k → k ≤ m.Code.length → ((cat m w k.toNat).length : Int) = if (p : Int) < k then k + 2 * c else k := by
    intro k h0 h1
    rw [hlen _ (by omega)]
    by_cases h : (p : Int) < k
    · rw [if_pos h, if_pos (by omega)]; omega
    · rw [if_neg h, if_neg (by omega)]; omega
  have hL : (cat m w m.Code.length).length = m.Code.length + 2 * c := by rw [hlen _ (Nat.le_refl _), if_pos hp]
  rw [rew_eq fu m w (by omega) (by omega) hh hfu]
  rw [if_pos ⟨by rw [hall]; exact List.all_eq_true.2 (fun x hx => inR_of (hmem x hx)), List.all_eq_true.2 (fun x hx => handR_of (hH x hx)), by omega⟩]
  refine ⟨_, rfl, rfl, ?_, ?_, by simp only [List.length_map]; exact hL, by simp⟩
  · intro i hi
    simp only
    have hat : (cat m w m.Code.length)[if p ≤ i then i + 2 * c else i]? = some m.Code[i] := by
      rw [hall]
      by_cases h : p ≤ i
      · rw [if_pos h, List.getElem?_append_right (by simp; omega), List.getElem?_append_right (by simp [pairs_len]; omega)]
        have e : i + 2 * c - (m.Code.take p).length - (pairs c).length = i - p := by simp [pairs_len]; omega
        rw [e, List.getElem?_drop, show p + (i - p) = i by omega, List.getElem?_eq_getElem hi]
      · rw [if_neg h, List.getElem?_append_left (by simp; omega), List.getElem?_take_of_lt (by omega), List.getElem?_eq_getElem hi]
    rw [List.getElem?_map, hat]
    simp only [Option.map_some, fixI]
    cases hb : jumpB m.Code[i] with
    | false => rfl
    | true =>
      have := hj _ (List.getElem_mem hi) hb
      simp only [cond_true]
      rw [hmv _ this.1 (by omega)]
  · intro i hi
    simp only
    rw [List.getElem?_map, List.getElem?_eq_getElem hi]
    have := hH _ (List.getElem_mem hi)
    simp only [Option.map_some, fixH]
    rw [hmv _ this.1 (by omega), hmv _ this.2.2.1 (by omega), hmv _ this.2.2.2.2.1 (by omega)]

theorem lands_l1 (fu : Nat) (m y : api_Method) (b : Bool) (p c : Nat) (W : List (List api_Instr)) (hn : m.Code.length ≤ 1000) (hc : c ≤ 400) (hj : jumpsIn m.Code.length m.Code) (hL : Landed m y p c) : ∀ (d k i : Nat), m.Code.length - i ≤ d → d < k → i ≤ m.Code.length →
    bonsailaw19_RewriteLands.l1 fu m ((p : Int), (c : Int), W) (y, b) k i = some (.brk ()) := by
  intro d
  induction d with
  | zero =>
    intro k i hi hk hin
    obtain ⟨k, rfl⟩ : ∃ q, k = q + 1 := ⟨k - 1, by omega⟩
    have e : i = m.Code.length := by omega
    subst e
    unfold bonsailaw19_RewriteLands.l1
    simp
  | succ d ih =>
    intro k i hi hk hin
    obtain ⟨k, rfl⟩ : ∃ q, k = q + 1 := ⟨k - 1, by omega⟩
    by_cases e : i = m.Code.length
    · subst e
      unfold bonsailaw19_RewriteLands.l1
      simp
    have hlt : i < m.Code.length := by omega
    have IH := ih k (i + 1) (by omega) (by omega) (by omega)
    rw [show ((i + 1 : Nat) : Int) = (i : Int) + 1 by omega] at IH
    unfold bonsailaw19_RewriteLands.l1
    rw [show decide ((i : Int) < (m.Code.length : Int)) = true by simp; omega, w64_eq (x := (i : Int) + 1) (by omega) (by omega)]
    simp only [cond_true]
    rw [w64_eq (x := 2 * (c : Int)) (by omega) (by omega), w64_eq (x := (i : Int) + 2 * (c : Int)) (by omega) (by omega)]
    have hto : (bif decide ((i : Int) ≥ (p : Int)) then some ((i : Int) + 2 * (c : Int)) else some (i : Int)) = some (((if p ≤ i then i + 2 * c else i : Nat)) : Int) := by
      by_cases h : p ≤ i
      · rw [show decide ((i : Int) ≥ (p : Int)) = true by simp; omega, if_pos h]; simp
      · rw [show decide ((i : Int) ≥ (p : Int)) = false by simp; omega, if_neg h]; simp
    rw [hto]
    simp only [Option.bind_some, idx_nat, hL.code i hlt, List.getElem?_eq_getElem hlt, jumps1_eq]
    cases hb : jumpB m.Code[i] with
    | false =>
      have hb' : (m.Code[i].Op == 19 || m.Code[i].Op == 20) = false := hb
      simp only [cond_false, bne_self_eq_false, hb', Option.bind_some]
      exact IH
    | true =>
      have hb' : (m.Code[i].Op == 19 || m.Code[i].Op == 20) = true := hb
      have := hj _ (List.getElem_mem hlt) hb
      simp only [cond_true, bne_self_eq_false, hb', cond_false, Option.bind_some]
      rw [moved_eq (by omega) (by omega) (by omega)]
      simp only [Option.bind_some, bne_self_eq_false, cond_false]
      exact IH

theorem lands_l2 (fu : Nat) (m y : api_Method) (b : Bool) (p c : Nat) (W : List (List api_Instr)) (hn : m.Code.length ≤ 1000) (hh : m.Handlers.length ≤ 1000) (hc : c ≤ 400) (hH : handsIn m.Code.length m.Handlers) (hL : Landed m y p c) : ∀ (d k i : Nat), m.Handlers.length - i ≤ d → d < k → i ≤ m.Handlers.length →
    bonsailaw19_RewriteLands.l2 fu m ((p : Int), (c : Int), W) (y, b) k i = some (.brk ()) := by
  intro d
  induction d with
  | zero =>
    intro k i hi hk hin
    obtain ⟨k, rfl⟩ : ∃ q, k = q + 1 := ⟨k - 1, by omega⟩
    have e : i = m.Handlers.length := by omega
    subst e
    unfold bonsailaw19_RewriteLands.l2
    simp
  | succ d ih =>
    intro k i hi hk hin
    obtain ⟨k, rfl⟩ : ∃ q, k = q + 1 := ⟨k - 1, by omega⟩
    by_cases e : i = m.Handlers.length
    · subst e
      unfold bonsailaw19_RewriteLands.l2
      simp
    have hlt : i < m.Handlers.length := by omega
    have IH := ih k (i + 1) (by omega) (by omega) (by omega)
    rw [show ((i + 1 : Nat) : Int) = (i : Int) + 1 by omega] at IH
    unfold bonsailaw19_RewriteLands.l2
    rw [show decide ((i : Int) < (m.Handlers.length : Int)) = true by simp; omega, w64_eq (x := (i : Int) + 1) (by omega) (by omega)]
    have := hH _ (List.getElem_mem hlt)
    simp only [cond_true, idx_nat, hL.hand i hlt, List.getElem?_eq_getElem hlt, Option.bind_some]
    rw [moved_eq (by omega) (by omega) (by omega), moved_eq (by omega) (by omega) (by omega), moved_eq (by omega) (by omega) (by omega)]
    simp only [Option.bind_some, bne_self_eq_false, cond_false, beq_self_eq_true, Bool.not_true]
    exact IH

theorem bonsailaw19_RewriteLands_true (k : Arr4_uint8) (hk : GoOpen.wf Try.prog 68 k) (l : List Int) (hl : l.length ≤ maxLen) (hw : ∀ y ∈ l, GoOpen.wf Try.prog 5 y) (a : Int) (wa : (Lit.int .u8 a).wf = true) (b : Int) (wb : (Lit.int .u8 b).wf = true) :
    ∃ fu, bonsailaw19_RewriteLands.fn fu k l a b = some true := by
  refine ⟨200000, ?_⟩
  unfold bonsailaw19_RewriteLands.fn
  rw [known19]
  simp only [Option.bind_some, Bool.not_true, cond_false]
  by_cases h40 : (l.length : Int) > 40
  · rw [show decide ((l.length : Int) > 40) = true by simpa using h40]; rfl
  rw [show decide ((l.length : Int) > 40) = false by simpa using h40]
  simp only [cond_false]
  obtain ⟨wk0, wk1, wk2, wk3⟩ := hk
  have ba := u8_bounds wa; have bb := u8_bounds wb
  obtain ⟨z, hz, oz⟩ := archive_ok 200000 (by omega) k (u8_bounds wk0).1 (u8_bounds wk3).1 l [] (by omega) (fun y hy => (u8_bounds (hw y hy)).1) (by simp) (fun y hy => by cases hy)
  rw [hz]
  simp only [Option.bind_some]
  obtain ⟨c0, hc0, m, r0, hm0, ok⟩ := oz.first
  rw [idx0_of hc0]
  simp only [Option.bind_some]
  rw [idx0_of (show c0.Methods[0]? = some m by rw [hm0]; rfl)]
  simp only [Option.bind_some]
  obtain ⟨n0, n1, n2, n3, hj, hH⟩ := lens_of ok
  have c5 := tmod_nn bb.1 (show (0 : Int) < 5 by decide)
  have pn := tmod_nn ba.1 (show (0 : Int) < m.Code.length by omega)
  rw [w64_eq (x := a) (by omega) (by omega), w64_eq (x := Int.tmod b 5) (by omega) (by omega)]
  rw [show ((m.Code.length : Int) != 0) = true by rw [bne_iff_ne]; omega, mayMake_of (n := (m.Code.length : Int)) (by omega) (by omega)]
  simp only [guardB, cond_true, Int.toNat_natCast]
  obtain ⟨p, hp⟩ : ∃ p : Nat, Int.tmod a (m.Code.length : Int) = p := ⟨(Int.tmod a (m.Code.length : Int)).toNat, by omega⟩
  obtain ⟨c, hc⟩ : ∃ c : Nat, Int.tmod b 5 = c := ⟨(Int.tmod b 5).toNat, by omega⟩
  rw [hp, hc]
  have hpn : p < m.Code.length := by omega
  have h0 := lands_l0 200000 m.Code.length p c hpn (by omega) c 200000 0 (by omega) (by omega) (by omega)
  rw [show (List.replicate m.Code.length ([] : List api_Instr)).set p (pairs 0) = List.replicate m.Code.length ([] : List api_Instr) by
    apply List.ext_getElem?; intro q; rw [List.getElem?_set]; split
    · rename_i e; subst e; simp [hpn, pairs]
    · rfl] at h0
  rw [show (0 : Int) = ((0 : Nat) : Int) from rfl, h0]
  simp only [Option.bind_some, idx_nat]
  rw [List.getElem?_set_self (by simpa using hpn), List.getElem?_eq_getElem hpn]
  simp only [Option.bind_some]
  rw [roomy_of (by rw [pairs_len]; omega)]
  simp only [cond_true, Int.toNat_natCast, List.set_set]
  obtain ⟨⟨y, b'⟩, hy, hb', hL⟩ := lands_rew (fu := 200000) (m := m) (p := p) (c := c) (by omega) (by omega) (by omega) (by omega) hj hH hpn
  simp only at hb' hL
  subst hb'
  rw [hy]
  simp only [Option.bind_some, Bool.not_true, cond_false]
  rw [w64_eq (x := 2 * (c : Int)) (by omega) (by omega), w64_eq (x := (m.Code.length : Int) + 2 * (c : Int)) (by omega) (by omega)]
  rw [show ((y.Code.length : Int) != (m.Code.length : Int) + 2 * (c : Int)) = false by rw [hL.len]; simp]
  simp only [cond_false, Option.bind_some]
  rw [show ((y.Handlers.length : Int) != (m.Handlers.length : Int)) = false by rw [hL.hlen]; simp]
  simp only [cond_false]
  rw [lands_l1 200000 m y true p c _ (by omega) (by omega) hj hL m.Code.length 200000 0 (by omega) (by omega) (by omega)]
  simp only [LR.then, Option.bind_some, LR.elim]
  rw [lands_l2 200000 m y true p c _ (by omega) (by omega) (by omega) hH hL m.Handlers.length 200000 0 (by omega) (by omega) (by omega)]
  rfl

end Go.Proofs.Ytgaldjnnfkdohaa
