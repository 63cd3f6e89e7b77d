/- What RewriteTells reckons is true, whatever it is told: the law. -/
import Derived.Test.YtgaldjnnfkdohaaFk
import Derived.Test.YtgaldjnnfkdohaaPureCom
set_option linter.unusedVariables false
set_option linter.unusedSimpArgs false
namespace Go.Proofs.Ytgaldjnnfkdohaa
open Go Go.Fw

theorem jumps1_eq (o : Int) : bonsairef1_Jumps.fn o = some (o == 19 || o == 20) := by
  unfold bonsairef1_Jumps.fn; cases h : (o == 19) <;> simp

/-! ### the reference's Rewritten, in closed form -/

theorem seg_len (m : api_Method) (w : List (List api_Instr)) {i : Nat} (hi : i < m.Code.length) :
    ((bif decide ((i : Int) < (w.length : Int)) then ((idx w i).bind fun x721 => some (decide ((x721.length : Int) > 0))) else (some false)).bind fun s719 => bif s719 then ((idx w i).bind fun x729 => some (x729.length : Int)) else (some 1)) = some ((seg m w i).length : Int) := by
  have hone : (m.Code[i]?).toList = [m.Code[i]] := by rw [List.getElem?_eq_getElem hi]; rfl
  by_cases hw : i < w.length
  · rw [show decide ((i : Int) < (w.length : Int)) = true by simp; omega]
    simp only [cond_true, idx_nat, List.getElem?_eq_getElem hw, Option.bind_some]
    unfold seg
    rw [List.getElem?_eq_getElem hw]
    simp only
    by_cases hl : 0 < (w[i]).length
    · rw [show decide (((w[i]).length : Int) > 0) = true by simp; omega, show Nat.blt 0 (w[i]).length = true from Nat.ble_eq_true_of_le hl]
      rfl
    · have h0 : (w[i]).length = 0 := by omega
      rw [h0, hone]; rfl
  · rw [show decide ((i : Int) < (w.length : Int)) = false by simp; omega]
    unfold seg
    rw [List.getElem?_eq_none (by omega), hone]; rfl

theorem ref_l0 (fu : Nat) (m : api_Method) (w : List (List api_Instr)) (hn : m.Code.length ≤ 100000) (hc : (cat m w m.Code.length).length ≤ 1000000) : ∀ (d k i : Nat), m.Code.length - i ≤ d → d < k → i ≤ m.Code.length →
    bonsairef18_Rewritten.l0 fu m w k (bgl m w (i + 1) ++ List.replicate (m.Code.length - i) 0) i = some (bgl m w (m.Code.length + 1)) := by
  intro d
  induction d with
  | zero =>
    intro k i hi hk hin
    obtain ⟨k, rfl⟩ : ∃ q, k = q + 1 := ⟨k - 1, by omega⟩
    have e : i = m.Code.length := by omega
    subst e
    unfold bonsairef18_Rewritten.l0
    simp
  | succ d ih =>
    intro k i hi hk hin
    obtain ⟨k, rfl⟩ : ∃ q, k = q + 1 := ⟨k - 1, by omega⟩
    by_cases e : i = m.Code.length
    · subst e
      unfold bonsairef18_Rewritten.l0
      simp
    have hlt : i < m.Code.length := by omega
    have IH := ih k (i + 1) (by omega) (by omega) (by omega)
    rw [show ((i + 1 : Nat) : Int) = (i : Int) + 1 by omega] at IH
    unfold bonsairef18_Rewritten.l0
    rw [show decide ((i : Int) < (m.Code.length : Int)) = true by simp; omega, w64_eq (x := (i : Int) + 1) (by omega) (by omega)]
    simp only [cond_true]
    rw [seg_len m w hlt]
    simp only [Option.bind_some]
    have h1 : idx (bgl m w (i + 1) ++ List.replicate (m.Code.length - i) (0 : Int)) (i : Int) = some ((cat m w i).length : Int) := by
      rw [idx_nat, List.getElem?_append_left (by rw [bgl_len]; omega), ← idx_nat, bgl_at m w (by omega) (by omega)]; simp
    have h2 : idx (bgl m w (i + 1) ++ List.replicate (m.Code.length - i) (0 : Int)) ((i : Int) + 1) = some 0 := by
      rw [show (i : Int) + 1 = ((i + 1 : Nat) : Int) by omega, idx_nat, List.getElem?_append_right (by rw [bgl_len]; omega), bgl_len, Nat.sub_self]
      obtain ⟨q, hq⟩ : ∃ q, m.Code.length - i = q + 1 := ⟨m.Code.length - i - 1, by omega⟩
      rw [hq, List.replicate_succ]; rfl
    rw [h1, h2]
    simp only [Option.bind_some]
    have hm := cat_mono m w (show i + 1 ≤ m.Code.length by omega)
    have hs : (cat m w (i + 1)).length = (cat m w i).length + (seg m w i).length := by rw [cat_succ, List.length_append]
    rw [w64_eq (x := ((cat m w i).length : Int) + ((seg m w i).length : Int)) (by omega) (by omega)]
    rw [show ((cat m w i).length : Int) + ((seg m w i).length : Int) = ((cat m w (i + 1)).length : Int) by omega]
    rw [← IH]
    congr 1
    rw [show ((i : Int) + 1).toNat = i + 1 by omega, List.set_append, if_neg (by rw [bgl_len]; omega), bgl_len, Nat.sub_self, bgl_succ m w (i + 1)]
    obtain ⟨q, hq⟩ : ∃ q, m.Code.length - i = q + 1 := ⟨m.Code.length - i - 1, by omega⟩
    rw [hq, show m.Code.length - (i + 1) = q by omega, List.replicate_succ, List.set_cons_zero]
    simp

theorem ref_l2 (fu : Nat) (m : api_Method) (w : List (List api_Instr)) (hn : m.Code.length ≤ 100000) (s : List api_Instr) : ∀ (d k i : Nat) (acc : List api_Instr), s.length - i ≤ d → d < k → i ≤ s.length → acc.length + (s.length - i) ≤ 1000000 → s.length ≤ 1000000 →
    bonsairef18_Rewritten.l2 fu m (bgl m w (m.Code.length + 1)) s k acc i = if (s.drop i).all (inR m.Code.length) = true then some (.brk (acc ++ (s.drop i).map (fixI m w))) else some (.ret (.ret (zeroM, false))) := by
  intro d
  induction d with
  | zero =>
    intro k i acc hi hk hin ha hs
    obtain ⟨k, rfl⟩ : ∃ q, k = q + 1 := ⟨k - 1, by omega⟩
    have e : i = s.length := by omega
    subst e
    unfold bonsairef18_Rewritten.l2
    simp
  | succ d ih =>
    intro k i acc hi hk hin ha hs
    obtain ⟨k, rfl⟩ : ∃ q, k = q + 1 := ⟨k - 1, by omega⟩
    by_cases e : i = s.length
    · subst e
      unfold bonsairef18_Rewritten.l2
      simp
    have hlt : i < s.length := by omega
    unfold bonsairef18_Rewritten.l2
    rw [show decide ((i : Int) < (s.length : Int)) = true by simp; omega, w64_eq (x := (i : Int) + 1) (by omega) (by omega)]
    simp only [cond_true, idx_nat, List.getElem?_eq_getElem hlt, Option.bind_some, jumps1_eq]
    rw [List.drop_eq_getElem_cons hlt, List.all_cons]
    have step : ∀ y, y = fixI m w s[i] → inR m.Code.length s[i] = true → guardB (roomy acc.length 1 88) (bonsairef18_Rewritten.l2 fu m (bgl m w (m.Code.length + 1)) s k (acc ++ ([y] : List api_Instr)) ((i : Int) + 1)) =
        if (inR m.Code.length s[i] && (s.drop (i + 1)).all (inR m.Code.length)) = true then some (.brk (acc ++ (s[i] :: s.drop (i + 1)).map (fixI m w))) else some (.ret (.ret (zeroM, false))) := by
      intro y hy hr
      have IH := ih k (i + 1) (acc ++ [y]) (by omega) (by omega) (by omega) (by simp; omega) hs
      rw [show ((i + 1 : Nat) : Int) = (i : Int) + 1 by omega] at IH
      rw [roomy_of (by omega)]
      simp only [guardB, cond_true]
      rw [IH, hr, hy, Bool.true_and, List.map_cons, List.append_assoc]; rfl
    cases hj : jumpB s[i] with
    | false =>
      have hj' : (s[i].Op == 19 || s[i].Op == 20) = false := hj
      rw [hj']
      simp only [cond_false, LR.then, Option.bind_some, LR.elim]
      exact step _ (by simp [fixI, hj]) (by simp [inR, hj])
    | true =>
      have hj' : (s[i].Op == 19 || s[i].Op == 20) = true := hj
      rw [hj']
      simp only [cond_true]
      by_cases hr : 0 ≤ s[i].K ∧ s[i].K < m.Code.length
      · rw [show decide (s[i].K < 0) = false by simp; omega, show decide (s[i].K ≥ (m.Code.length : Int)) = false by simp; omega]
        simp only [cond_false, Option.bind_some]
        rw [bgl_at m w hr.1 (by omega)]
        simp only [LR.then, Option.bind_some, LR.elim]
        exact step _ (by simp [fixI, hj]) (by simp [inR, hj]; omega)
      · have hb : (bif decide (s[i].K < 0) then some true else some (decide (s[i].K ≥ (m.Code.length : Int)))) = some true := by
          by_cases h0 : s[i].K < 0
          · rw [show decide (s[i].K < 0) = true by simpa using h0]; rfl
          · rw [show decide (s[i].K < 0) = false by simpa using h0, show decide (s[i].K ≥ (m.Code.length : Int)) = true by simp; omega]; rfl
        rw [hb]
        have hi0 : inR m.Code.length s[i] = false := by simp [inR, hj]; omega
        rw [hi0]
        simp [LR.then, LR.elim, LR.esc, zeroM]

theorem ref_l1 (fu : Nat) (m : api_Method) (w : List (List api_Instr)) (hn : m.Code.length ≤ 100000) (hc : (cat m w m.Code.length).length ≤ 1000000) (hfu : 1000001 < fu) : ∀ (d k i : Nat) (acc : List api_Instr), m.Code.length - i ≤ d → d < k → i ≤ m.Code.length → acc.length = (cat m w i).length →
    bonsairef18_Rewritten.l1 fu m w (bgl m w (m.Code.length + 1)) k acc i = if ((cat m w m.Code.length).drop (cat m w i).length).all (inR m.Code.length) = true then some (.brk (acc ++ ((cat m w m.Code.length).drop (cat m w i).length).map (fixI m w))) else some (.ret (zeroM, false)) := by
  intro d
  induction d with
  | zero =>
    intro k i acc hi hk hin ha
    obtain ⟨k, rfl⟩ : ∃ q, k = q + 1 := ⟨k - 1, by omega⟩
    have e : i = m.Code.length := by omega
    subst e
    unfold bonsairef18_Rewritten.l1
    simp
  | succ d ih =>
    intro k i acc hi hk hin ha
    obtain ⟨k, rfl⟩ : ∃ q, k = q + 1 := ⟨k - 1, by omega⟩
    by_cases e : i = m.Code.length
    · subst e
      unfold bonsairef18_Rewritten.l1
      simp
    have hlt : i < m.Code.length := by omega
    unfold bonsairef18_Rewritten.l1
    rw [show decide ((i : Int) < (m.Code.length : Int)) = true by simp; omega, w64_eq (x := (i : Int) + 1) (by omega) (by omega)]
    simp only [cond_true, idx_nat, List.getElem?_eq_getElem hlt, Option.bind_some]
    have hone : (m.Code[i]?).toList = [m.Code[i]] := by rw [List.getElem?_eq_getElem hlt]; rfl
    have hseg : ((bif decide ((i : Int) < (w.length : Int)) then ((w[i]?).bind fun x6560 => some (decide ((x6560.length : Int) > 0))) else (some false)).bind fun s6557 => bif s6557 then ((w[i]?).bind fun x6569 => some x6569) else (some [m.Code[i]])) = some (seg m w i) := by
      by_cases hw : i < w.length
      · rw [show decide ((i : Int) < (w.length : Int)) = true by simp; omega]
        simp only [cond_true, List.getElem?_eq_getElem hw, Option.bind_some]
        unfold seg
        rw [List.getElem?_eq_getElem hw]
        simp only
        by_cases hl : 0 < (w[i]).length
        · rw [show decide (((w[i]).length : Int) > 0) = true by simp; omega, show Nat.blt 0 (w[i]).length = true from Nat.ble_eq_true_of_le hl]
          rfl
        · have h0 : (w[i]).length = 0 := by omega
          rw [h0, hone]; rfl
      · rw [show decide ((i : Int) < (w.length : Int)) = false by simp; omega]
        unfold seg
        rw [List.getElem?_eq_none (by omega), hone]; rfl
    rw [hseg]
    simp only [Option.bind_some]
    have hm := cat_mono m w (show i + 1 ≤ m.Code.length by omega)
    have hs : (cat m w (i + 1)).length = (cat m w i).length + (seg m w i).length := by rw [cat_succ, List.length_append]
    have h2 := ref_l2 fu m w hn (seg m w i) (seg m w i).length fu 0 acc (by omega) (by omega) (by omega) (by omega) (by omega)
    rw [show (0 : Int) = ((0 : Nat) : Int) from rfl, h2, List.drop_zero]
    have hsplit : (cat m w m.Code.length).drop (cat m w i).length = seg m w i ++ (cat m w m.Code.length).drop (cat m w (i + 1)).length := by
      have pre : ∀ j, i + 1 ≤ j → ∃ r, cat m w j = cat m w (i + 1) ++ r := by
        intro j
        induction j with
        | zero => intro h; omega
        | succ j ihj =>
          intro h
          by_cases e : i + 1 = j + 1
          · exact ⟨[], by rw [e]; simp⟩
          · obtain ⟨r, hr⟩ := ihj (by omega)
            exact ⟨r ++ seg m w j, by rw [cat_succ, hr, List.append_assoc]⟩
      obtain ⟨r, hr⟩ := pre m.Code.length (by omega)
      rw [hr, List.drop_left' rfl, cat_succ, List.append_assoc, List.drop_left' rfl]
    rw [hsplit, List.all_append, List.map_append]
    cases h1 : (seg m w i).all (inR m.Code.length) with
    | false => simp [LR.then, LR.elim]
    | true =>
      simp only [if_true, LR.then, Option.bind_some, LR.elim, Bool.true_and]
      have IH := ih k (i + 1) (acc ++ (seg m w i).map (fixI m w)) (by omega) (by omega) (by omega) (by rw [List.length_append, List.length_map]; omega)
      rw [show ((i + 1 : Nat) : Int) = (i : Int) + 1 by omega] at IH
      rw [IH, List.append_assoc]

theorem or6 {β : Type} (b1 b2 b3 b4 b5 b6 : Bool) (f : Bool → Option β) :
    ((bif b1 then some true else some b2).bind fun s1 => (bif s1 then some true else some b3).bind fun s2 => (bif s2 then some true else some b4).bind fun s3 => (bif s3 then some true else some b5).bind fun s4 => (bif s4 then some true else some b6).bind f) = f (b1 || b2 || b3 || b4 || b5 || b6) := by
  cases b1 <;> cases b2 <;> cases b3 <;> cases b4 <;> cases b5 <;> rfl

theorem ref_l3 (fu : Nat) (m : api_Method) (w : List (List api_Instr)) (hn : m.Code.length ≤ 100000) (hH : m.Handlers.length ≤ 1000000) : ∀ (d k i : Nat) (acc : List api_Handler), m.Handlers.length - i ≤ d → d < k → i ≤ m.Handlers.length → acc.length = i →
    bonsairef18_Rewritten.l3 fu m (bgl m w (m.Code.length + 1)) k acc i = if (m.Handlers.drop i).all (handR m.Code.length) = true then some (.brk (acc ++ (m.Handlers.drop i).map (fixH m w))) else some (.ret (zeroM, false)) := by
  intro d
  induction d with
  | zero =>
    intro k i acc hi hk hin ha
    obtain ⟨k, rfl⟩ : ∃ q, k = q + 1 := ⟨k - 1, by omega⟩
    have e : i = m.Handlers.length := by omega
    subst e
    unfold bonsairef18_Rewritten.l3
    simp
  | succ d ih =>
    intro k i acc hi hk hin ha
    obtain ⟨k, rfl⟩ : ∃ q, k = q + 1 := ⟨k - 1, by omega⟩
    by_cases e : i = m.Handlers.length
    · subst e
      unfold bonsairef18_Rewritten.l3
      simp
    have hlt : i < m.Handlers.length := by omega
    unfold bonsairef18_Rewritten.l3
    rw [show decide ((i : Int) < (m.Handlers.length : Int)) = true by simp; omega, w64_eq (x := (i : Int) + 1) (by omega) (by omega)]
    simp only [cond_true, idx_nat, List.getElem?_eq_getElem hlt, Option.bind_some]
    rw [List.drop_eq_getElem_cons hlt, List.all_cons]
    generalize hh : m.Handlers[i] = h
    have hr : (decide (h.From < 0) || decide (h.From ≥ (m.Code.length : Int)) || decide (h.To < 0) || decide (h.To > (m.Code.length : Int)) || decide (h.At < 0) || decide (h.At ≥ (m.Code.length : Int))) = !handR m.Code.length h := by
      unfold handR
      rw [Bool.eq_iff_iff]
      simp
      omega
    rw [or6, hr]
    cases hR : handR m.Code.length h with
    | false => simp [LR.esc, zeroM]
    | true =>
      simp only [Bool.not_true, cond_false, Bool.true_and]
      simp only [handR, Bool.and_eq_true, decide_eq_true_eq] at hR
      rw [bgl_at m w hR.1.1 (by omega), bgl_at m w hR.2.1.1 (by omega), bgl_at m w hR.2.2.1 (by omega)]
      simp only [Option.bind_some]
      rw [roomy_of (by omega)]
      simp only [guardB, cond_true]
      have IH := ih k (i + 1) (acc ++ [fixH m w h]) (by omega) (by omega) (by omega) (by simp; omega)
      rw [show ((i + 1 : Nat) : Int) = (i : Int) + 1 by omega] at IH
      have e : (api_Handler.mk ((cat m w h.From.toNat).length : Int) ((cat m w h.To.toNat).length : Int) ((cat m w h.At.toNat).length : Int) h.Catch) = fixH m w h := rfl
      rw [e, IH]
      simp

/-- the reference's Rewritten, in closed form -/
theorem ref_eq (fu : Nat) (m : api_Method) (w : List (List api_Instr)) (hn : m.Code.length ≤ 100000) (hc : (cat m w m.Code.length).length ≤ 1000000) (hh : m.Handlers.length ≤ 1000000) (hfu : 1000001 < fu) :
    bonsairef18_Rewritten.fn fu m w =
      if (cat m w m.Code.length).all (inR m.Code.length) = true ∧ m.Handlers.all (handR m.Code.length) = true ∧ (cat m w m.Code.length).length ≤ 2000 then
        some (⟨m.Name, m.Params, m.Ret, m.Static, m.Abstract, m.Locals, (cat m w m.Code.length).map (fixI m w), m.Handlers.map (fixH m w)⟩, true)
      else some (zeroM, false) := by
  unfold bonsairef18_Rewritten.fn
  rw [w64_eq (x := (m.Code.length : Int) + 1) (by omega) (by omega), mayMake_of (by omega) (by omega)]
  simp only [guardB, cond_true]
  have h0 := ref_l0 fu m w hn hc m.Code.length fu 0 (by omega) (by omega) (by omega)
  have hb0 : bgl m w (0 + 1) ++ List.replicate (m.Code.length - 0) (0 : Int) = List.replicate (((m.Code.length : Int) + 1).toNat) (GoZero.zero 3 (α := Int)) := by
    rw [show ((m.Code.length : Int) + 1).toNat = m.Code.length + 1 by omega, List.replicate_succ]
    rfl
  rw [hb0] at h0
  rw [show (0 : Int) = ((0 : Nat) : Int) from rfl, h0]
  simp only [Option.bind_some]
  rw [bgl_at m w (by omega) (by omega)]
  simp only [Option.bind_some, Int.toNat_natCast]
  by_cases c3 : (cat m w m.Code.length).length ≤ 2000
  · rw [show decide (((cat m w m.Code.length).length : Int) > 2000) = false by simp; omega]
    simp only [cond_false]
    have h1 := ref_l1 fu m w hn hc hfu m.Code.length fu 0 [] (by omega) (by omega) (by omega) rfl
    have h3 := ref_l3 fu m w hn hh m.Handlers.length fu 0 [] (by omega) (by omega) (by omega) rfl
    rw [show (cat m w 0).length = 0 from rfl, List.drop_zero, List.nil_append] at h1
    rw [List.drop_zero, List.nil_append] at h3
    rw [h1]
    by_cases c1 : (cat m w m.Code.length).all (inR m.Code.length) = true
    · rw [if_pos c1]
      simp only [LR.then, Option.bind_some, LR.elim]
      rw [h3]
      by_cases c2 : m.Handlers.all (handR m.Code.length) = true
      · rw [if_pos c2, if_pos ⟨c1, c2, c3⟩]; rfl
      · rw [if_neg c2, if_neg (fun h => c2 h.2.1)]; rfl
    · rw [if_neg c1, if_neg (fun h => c1 h.1)]; rfl
  · rw [show decide (((cat m w m.Code.length).length : Int) > 2000) = true by simp; omega, if_neg (fun h => c3 h.2.2)]
    rfl

end Go.Proofs.Ytgaldjnnfkdohaa
