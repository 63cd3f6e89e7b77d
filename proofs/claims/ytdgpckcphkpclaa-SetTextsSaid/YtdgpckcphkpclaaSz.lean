/- Functions of the program, and their walks: what each reckons, and that its code reckons it. -/
import Derived.Test.YtdgpckcphkpclaaSk
set_option linter.unusedVariables false
set_option linter.unusedSimpArgs false
set_option maxHeartbeats 0
set_option maxRecDepth 100000
namespace Go.Proofs.Ytdgpckcphkpclaa
open Go Go.Fw
noncomputable def bod7 : Code := Try.f7.body.getD .skip
theorem isf7 : IsFn Try.prog 7 Try.f7 bod7 := ⟨Try.func7, rfl, by decide⟩
-- 7 bonsai/bonsailaw7.SetTexts
def bonsailaw7_SetTexts.l0 (fu : Nat) (x27 : ((List ByteArray) × (List ByteArray))) : Nat → (List ByteArray) → (WorkV ByteArray) → Int → Option (LR ((List ByteArray) × (WorkV ByteArray)) Bool)
  | 0, _, _, _ => none
  | k + 1, v1480, v1481, v1482 => bif decide (v1482 < (x27.1.length : Int)) then ((bif decide (v1482 > 0) then ((idx x27.1 v1482).bind fun x1593 => (idx x27.1 (w64 (v1482 - 1))).bind fun x1603 => some (Op.bytesLess x1593.toList x1603.toList || x1593.toList == x1603.toList)) else (some false)).bind fun s1553 => bif s1553 then (LR.esc (some false)) else ((set_Work_string_Take.fn v1481).bind fun x1612 => (bif !x1612.2.1 then (some true) else ((idx x27.1 v1482).bind fun x1643 => some (!(x1612.1.toList == x1643.toList)))).bind fun s1641 => (bif s1641 then (some (v1480, true)) else ((idx x27.1 v1482).bind fun x1683 => (set_Set_string_Has.fn v1480 x1683).bind fun x1692 => some (x1692.2, !x1692.1))).bind fun s1681 => (bif s1681.2 then (some (s1681.1, true)) else ((idx x27.1 v1482).bind fun x1730 => (set_Set_string_Add.fn s1681.1 x1730).bind fun x1739 => some (x1739.2, x1739.1))).bind fun s1728 => bif s1728.2 then (LR.esc (some false)) else (bonsailaw7_SetTexts.l0 fu x27 k s1728.1 x1612.2.2 (w64 (v1482 + 1))))) else (some (.brk (v1480, v1481)))
def bonsailaw7_SetTexts.fn (fu : Nat) (p1 : (List ByteArray)) : Option Bool := (bonsailaw7_known.fn fu).bind fun x6 => bif !x6 then (some false) else (bif decide ((p1.length : Int) > 20) then (some true) else ((set_New_string.fn fu p1).bind fun x11 => (set_NewWork_string.fn fu p1).bind fun x19 => (set_Set_string_List.fn x11).bind fun x27 => LR.then (bonsailaw7_SetTexts.l0 fu x27 fu x27.2 x19 0) fun s895 => (set_Work_string_Take.fn s895.2).bind fun x1746 => (bif !x1746.2.1 then ((set_Set_string_List.fn s895.1).bind fun x1785 => (bonsairef7_Sorted.fn fu p1).bind fun x1798 => (bonsaihelp_Strings.fn fu x1785.1 x1798).bind fun x1809 => some x1809) else (some false)).bind fun s1783 => some s1783))
theorem bonsailaw7_SetTexts_spec {K : KM} {fu : Nat} {p1 : (List ByteArray)} {r : Bool} {a2 : Option Addr} {c3 : Nat} (hf : bonsailaw7_SetTexts.fn fu p1 = some r) (h4 : SlK 9 K a2 c3 p1) : Sp Try.prog 7 [(.slice a2 p1.length c3)] K [] (fun K' C v => v = (.bool r)) := by
  unfold bonsailaw7_SetTexts.fn at hf
  refine spec_enter isf7 rfl ?_
  intro w L hS
  replace hS : Sat w K (flat [L]) := hS
  have hle := KM.le.refl K
  unfold bod7 Try.f7
  dsimp only [Option.getD_some, argSlots]
  refine s_seq (s_reg ?_)
  refine s_v rfl rfl rfl ?_
  refine s_nil (qn (s_seq (s_seq (s_reg ?_))))
  obtain ⟨x6, hx7, hf⟩ := bs hf
  refine s_call isf8 hS.nilG (bonsailaw7_known_spec hx7) rfl rfl rfl ?_
  rintro _ K8 C10 w hk9 rfl hS
  replace hS := hS.drop1
  refine s_v rfl rfl rfl ?_
  refine s_nil (qn ?_)
  refine s_if rfl (fun hc => ?_) (fun hc => ?_)
  · replace hf := bif_t hc hf
    refine s_seq (s_reg ?_)
    refine s_v rfl rfl rfl ?_
    refine s_nil (qn (s_rets (qrt ?_)))
    have hq := Option.some.inj hf
    subst hq
    refine s_ret1 rfl (rv_t rfl) ?_
    replace hle := hle.trans hk9
    exact ⟨K8, _, hle, rfl, Sat.nilG (hS.sel [0] rfl)⟩
  replace hf := bif_f hc hf
  refine s_skip (qn (s_seq (s_seq (s_reg ?_))))
  iterate 3 refine s_v rfl rfl rfl ?_
  refine s_nil (qn ?_)
  refine s_if rfl (fun hc => ?_) (fun hc => ?_)
  · replace hf := bif_t hc hf
    refine s_seq (s_reg ?_)
    refine s_v rfl rfl rfl ?_
    refine s_nil (qn (s_rets (qrt ?_)))
    have hq := Option.some.inj hf
    subst hq
    refine s_ret1 rfl (rv_t rfl) ?_
    replace hle := hle.trans hk9
    exact ⟨K8, _, hle, rfl, Sat.nilG (hS.sel [0] rfl)⟩
  replace hf := bif_f hc hf
  refine s_skip (qn (s_seq (s_reg ?_)))
  refine s_v rfl rfl rfl ?_
  obtain ⟨x11, hx12, hf⟩ := bs hf
  replace h4 := h4.mono hk9
  refine s_call isf9 hS.nilG (set_New_string_spec hx12 h4) rfl rfl rfl ?_
  rintro _ K13 C15 w hk14 ⟨b16, rfl, h17⟩ hS
  refine s_v rfl rfl rfl ?_
  obtain ⟨x19, hx20, hf⟩ := bs hf
  replace h4 := h4.mono hk14
  refine s_call isf27 hS.nilG (set_NewWork_string_spec hx20 h4) rfl rfl rfl ?_
  rintro _ K21 C23 w hk22 ⟨b24, rfl, h25⟩ hS
  iterate 2 refine s_v rfl rfl rfl ?_
  refine s_nil (qn (s_seq (s_reg ?_)))
  refine s_v rfl rfl rfl ?_
  obtain ⟨x27, hx28, hf⟩ := bs hf
  replace h17 := h17.mono hk22
  refine s_call isf18 (Sat.shut1 (hS.sel [1, 0, 2] rfl)) (set_Set_string_List_spec hx28 h17) rfl rfl rfl ?_
  rintro _ K29 _ w hk30 ⟨a32, c33, C36, C37, rfl, h34, h35, rfl⟩ hS
  replace hS := hS.open2
  refine s_v rfl rfl rfl ?_
  refine s_nil (qn ?_)
  obtain ⟨res896, hst897, hm898⟩ := LR.then_some hf
  have hkk0 := ((hk9.trans hk14).trans hk22).trans hk30
  refine s_cut (fun τ w => ∃ (s895 : ((List ByteArray) × (WorkV ByteArray))) (K887 : KM) (C890 : Chunks) (C893 : Chunks), res896 = .brk s895 ∧ τ = [(0, (.slice a2 p1.length c3)), (3, (.pointer (some ⟨b16, 0, none⟩))), (4, (.pointer (some ⟨b24, 0, none⟩)))] ∧ KM.le K K887 ∧ SlK 9 K887 a2 c3 p1 ∧ SetO 59 K887 b16 s895.1 C890 ∧ WorkO 72 59 9 K887 b24 s895.2 C893 ∧ Sat w K887 (flat [C890, C893, L])) (fun J hJ => ?_) ?_
  · replace hf := hst897
    refine s_seq (s_reg ?_)
    refine s_v rfl rfl rfl ?_
    refine s_nil (qn (s_block ?_))
    replace hle := hle.trans hkk0
    replace h4 := h4.mono (hk22.trans hk30)
    replace h25 := h25.mono hk30
    refine s_loopp (fun n τ w => ∃ (v1480 : (List ByteArray)) (v1481 : (WorkV ByteArray)) (v1482 : Int) (K1467 : KM) (C1470 : Chunks) (C1473 : Chunks) (C1478 : Chunks), bonsailaw7_SetTexts.l0 fu x27 n v1480 v1481 v1482 = some res896 ∧ τ = [(0, (.slice a2 p1.length c3)), (3, (.pointer (some ⟨b16, 0, none⟩))), (4, (.pointer (some ⟨b24, 0, none⟩))), (5, (.slice a32 x27.1.length c33)), (6, (.int .i64 v1482))] ∧ KM.le K K1467 ∧ SlK 9 K1467 a2 c3 p1 ∧ SetO 59 K1467 b16 v1480 C1470 ∧ WorkO 72 59 9 K1467 b24 v1481 C1473 ∧ OwnS 9 K1467 (.slice a32 x27.1.length c33) x27.1 C1478 ∧ Sat w K1467 (flat [C1470, C1473, C1478, L])) _ ⟨x27.2, x19, 0, K29, C37, C23, C36, hf, rfl, hle, h4, h35, h25, h34, (hS.sel [1, 2, 0, 3] rfl)⟩ ⟨rfl, rfl, rfl, rfl, rfl, trivial⟩ ?_ ?_
    · rintro _ _ ⟨_, _, _, _, _, _, _, hf, _⟩
      exact absurd hf (by simp [bonsailaw7_SetTexts.l0])
    rintro n _ w Y hY ⟨v1480, v1481, v1482, K1467, C1470, C1473, C1478, hf, rfl, hle, h1468, h1469, h1472, h1475, hS⟩
    rw [bonsailaw7_SetTexts.l0] at hf
    refine s_seq (s_seq (s_reg ?_))
    iterate 4 refine s_v rfl rfl rfl ?_
    refine s_nil (qn ?_)
    refine s_if rfl (fun hc => ?_) (fun hc => ?_)
    · replace hf := bif_t hc hf
      refine s_skip (qn (s_seq (s_block (s_seq ?_))))
      obtain ⟨s1553, hst1554, hf⟩ := bs hf
      refine s_cut (fun τ w => ∃ (K1540 : KM) (C1543 : Chunks) (C1546 : Chunks) (C1551 : Chunks), τ = [(0, (.slice a2 p1.length c3)), (3, (.pointer (some ⟨b16, 0, none⟩))), (4, (.pointer (some ⟨b24, 0, none⟩))), (5, (.slice a32 x27.1.length c33)), (6, (.int .i64 v1482)), (41, (.bool s1553))] ∧ KM.le K K1540 ∧ SlK 9 K1540 a2 c3 p1 ∧ SetO 59 K1540 b16 v1480 C1543 ∧ WorkO 72 59 9 K1540 b24 v1481 C1546 ∧ OwnS 9 K1540 (.slice a32 x27.1.length c33) x27.1 C1551 ∧ Sat w K1540 (flat [C1543, C1546, C1551, L])) (fun J hJ => ?_) ?_
      · replace hf := hst1554
        refine d_start [2] [] hS ?_
        intro w hS
        refine d_v 0 (fun _ _ _ _ _ h => h) [2] hS rfl rfl rfl (by kernel_rfl) rfl rfl ?_
        refine d_v 1 (fun _ _ _ _ _ h => h) [2] hS rfl rfl rfl (by kernel_rfl) rfl rfl ?_
        refine d_v 2 (fun _ _ _ _ _ h => h) [2] hS rfl rfl rfl (by kernel_rfl) rfl rfl ?_
        cases hc : (decide (v1482 > 0))
        · replace hf := bif_f hc hf
          refine d_no 3 (fun _ _ _ _ _ h => h) [2] hS rfl rfl (by kernel_rfl) rfl rfl ?_
          refine d_no 4 (fun _ _ _ _ _ h => h) [2] hS rfl rfl (by kernel_rfl) rfl rfl ?_
          refine d_no 5 (fun _ _ _ _ _ h => h) [2] hS rfl rfl (by kernel_rfl) rfl rfl ?_
          refine d_no 6 (fun _ _ _ _ _ h => h) [2] hS rfl rfl (by kernel_rfl) rfl rfl ?_
          refine d_no 7 (fun _ _ _ _ _ h => h) [2] hS rfl rfl (by kernel_rfl) rfl rfl ?_
          refine d_no 8 (fun _ _ _ _ _ h => h) [2] hS rfl rfl (by kernel_rfl) rfl rfl ?_
          refine d_no 9 (fun _ _ _ _ _ h => h) [2] hS rfl rfl (by kernel_rfl) rfl rfl ?_
          refine d_no 10 (fun _ _ _ _ _ h => h) [2] hS rfl rfl (by kernel_rfl) rfl rfl ?_
          refine d_no 11 (fun _ _ _ _ _ h => h) [2] hS rfl rfl (by kernel_rfl) rfl rfl ?_
          refine d_no 12 (fun _ _ _ _ _ h => h) [2] hS rfl rfl (by kernel_rfl) rfl rfl ?_
          refine d_v 13 (fun _ _ _ _ _ h => h) [2] hS rfl rfl rfl (by kernel_rfl) rfl rfl ?_
          refine d_end (by kernel_rfl) ?_
          refine qn ?_
          have hq := Option.some.inj hf
          subst hq
          refine s_join hJ _ ⟨K1467, C1470, C1473, C1478, rfl, hle, h1468, h1469, h1472, h1475, hS⟩ ⟨rfl, rfl, rfl, rfl, rfl, rfl, trivial⟩
        replace hf := bif_t hc hf
        refine d_v 3 (fun _ _ _ _ _ h => h) [2] hS rfl rfl rfl (by kernel_rfl) rfl rfl ?_
        refine d_v 4 (fun _ _ _ _ _ h => h) [2] hS rfl rfl rfl (by kernel_rfl) rfl rfl ?_
        obtain ⟨x1593, hx1594, hf⟩ := bs hf
        refine d_ixo 5 2 (fun _ _ _ _ _ h => h) [2] hS rfl h1475 hx1594 rfl rfl rfl rfl rfl rfl rfl (by kernel_rfl) rfl rfl ?_
        intro b1595 l1596 cs1599 l1597 hcs_ hC1600 hun1598
        obtain rfl := hcs_
        subst hC1600
        have hq1601 := KM.le.refl K1467
        refine d_ldm 6 0 0 (fun _ _ _ _ _ h => h) [2] hS rfl rfl rfl rfl rfl (by kernel_rfl) rfl rfl ?_
        refine d_v 7 (fun _ _ _ _ _ h => h) [2] hS rfl rfl rfl (by kernel_rfl) rfl rfl ?_
        refine d_v 8 (fun _ _ _ _ _ h => h) [2] hS rfl rfl rfl (by kernel_rfl) rfl rfl ?_
        refine d_v 9 (fun _ _ _ _ _ h => h) [2] hS rfl rfl rfl (by kernel_rfl) rfl rfl ?_
        generalize hCg_ : ([(b1595, Cl (l1596 ++ (([(.string x1593)] : List Value) ++ l1597)) 9)] : Chunks) = C1602 at hS h1475 ⊢
        clear hCg_
        obtain ⟨x1603, hx1604, hf⟩ := bs hf
        refine d_ixo 10 2 (fun _ _ _ _ _ h => h) [2] hS rfl h1475 hx1604 rfl rfl rfl rfl rfl rfl rfl (by kernel_rfl) rfl rfl ?_
        intro b1605 l1606 cs1609 l1607 hcs_ hC1610 hun1608
        obtain rfl := hcs_
        subst hC1610
        have hq1611 := KM.le.refl K1467
        refine d_ldm 11 0 0 (fun _ _ _ _ _ h => h) [2] hS rfl rfl rfl rfl rfl (by kernel_rfl) rfl rfl ?_
        refine d_v 12 (fun _ _ _ _ _ h => h) [2] hS rfl rfl rfl (by kernel_rfl) rfl rfl ?_
        refine d_v 13 (fun _ _ _ _ _ h => h) [2] hS rfl rfl rfl (by kernel_rfl) rfl rfl ?_
        refine d_end (by kernel_rfl) ?_
        refine qn ?_
        have hq := Option.some.inj hf
        subst hq
        refine s_join hJ _ ⟨K1467, C1470, C1473, [(b1605, Cl (l1606 ++ (([(.string x1603)] : List Value) ++ l1607)) 9)], rfl, hle, h1468, h1469, h1472, h1475, hS⟩ ⟨rfl, rfl, rfl, rfl, rfl, rfl, trivial⟩
      rintro _ w ⟨K1540, C1543, C1546, C1551, rfl, hle, h1541, h1542, h1545, h1548, hS⟩
      refine s_if rfl (fun hc => ?_) (fun hc => ?_)
      · replace hf := bif_t hc hf
        refine s_seq (s_reg ?_)
        refine s_v rfl rfl rfl ?_
        refine s_nil (qn ?_)
        replace hS : Sat w K1540 (flat [_]) := (hS.sel [3] rfl)
        refine s_rets (qrt (qrb (qrt (qrt (qrb (qrt ?_))))))
        replace hf := LR.esc_some hf hm898
        have hq := Option.some.inj hf
        subst hq
        refine s_ret1 rfl (rv_t rfl) ?_
        exact ⟨K1540, _, hle, rfl, Sat.nilG (hS.sel [0] rfl)⟩
      replace hf := bif_f hc hf
      refine s_skip (qn (s_seq (s_reg ?_)))
      refine s_v rfl rfl rfl ?_
      obtain ⟨x1612, hx1613, hf⟩ := bs hf
      refine s_call isf28 (Sat.shut1 (hS.sel [1, 0, 2, 3] rfl)) (set_Work_string_Take_spec hx1613 h1545) rfl rfl rfl ?_
      rintro _ K1614 C1616 w hk1615 ⟨rfl, h1617⟩ hS
      iterate 5 refine s_v rfl rfl rfl ?_
      refine s_nil (qn (s_seq (s_reg ?_)))
      iterate 3 refine s_v rfl rfl rfl ?_
      obtain ⟨s1641, hst1642, hf⟩ := bs hf
      refine r_cut [_, _, _, _, _, _, _] (fun τ w => ∃ (K1628 : KM) (C1631 : Chunks) (C1634 : Chunks) (C1639 : Chunks), τ = [(0, (.slice a2 p1.length c3)), (3, (.pointer (some ⟨b16, 0, none⟩))), (4, (.pointer (some ⟨b24, 0, none⟩))), (5, (.slice a32 x27.1.length c33)), (6, (.int .i64 v1482)), (56, (.bool s1641))] ∧ KM.le K K1628 ∧ SlK 9 K1628 a2 c3 p1 ∧ SetO 59 K1628 b16 v1480 C1631 ∧ WorkO 72 59 9 K1628 b24 x1612.2.2 C1634 ∧ OwnS 9 K1628 (.slice a32 x27.1.length c33) x27.1 C1639 ∧ Sat w K1628 (flat [C1631, C1634, C1639, L])) rfl (fun J hJ => ?_) ?_
      · replace hf := hst1642
        cases hc : (!x1612.2.1)
        · replace hf := bif_f hc hf
          iterate 3 refine s_v rfl rfl rfl ?_
          obtain ⟨x1643, hx1644, hf⟩ := bs hf
          replace h1548 := h1548.mono hk1615
          refine s_ixo 2 hS rfl h1548 hx1644 rfl rfl rfl rfl rfl rfl rfl ?_
          intro b1645 l1646 cs1649 l1647 hcs_ hC1650 hun1648
          obtain rfl := hcs_
          subst hC1650
          have hq1651 := KM.le.refl K1614
          refine s_ldm 2 0 hS rfl rfl rfl rfl rfl ?_
          iterate 2 refine s_v rfl rfl rfl ?_
          have hq := Option.some.inj hf
          subst hq
          replace h1541 := h1541.mono hk1615
          replace h1542 := h1542.mono hk1615
          replace hle := hle.trans hk1615
          refine r_join hJ _ ⟨K1614, C1543, C1616, [(b1645, Cl (l1646 ++ (([(.string x1643)] : List Value) ++ l1647)) 9)], rfl, hle, h1541, h1542, h1617, h1548, (hS.sel [1, 0, 2, 3] rfl)⟩ ⟨rfl, rfl, rfl, rfl, rfl, rfl, trivial⟩
        replace hf := bif_t hc hf
        refine s_no rfl rfl ?_
        refine s_no rfl rfl ?_
        refine s_no rfl rfl ?_
        refine s_no rfl rfl ?_
        refine s_no rfl rfl ?_
        refine s_no rfl rfl ?_
        refine s_v rfl rfl rfl ?_
        have hq := Option.some.inj hf
        subst hq
        replace h1541 := h1541.mono hk1615
        replace h1542 := h1542.mono hk1615
        replace h1548 := h1548.mono hk1615
        replace hle := hle.trans hk1615
        refine r_join hJ _ ⟨K1614, C1543, C1616, C1551, rfl, hle, h1541, h1542, h1617, h1548, (hS.sel [1, 0, 2, 3] rfl)⟩ ⟨rfl, rfl, rfl, rfl, rfl, rfl, trivial⟩
      rintro _ w ⟨K1628, C1631, C1634, C1639, rfl, hle, h1629, h1630, h1633, h1636, hS⟩
      refine s_v rfl rfl rfl ?_
      obtain ⟨s1681, hst1682, hf⟩ := bs hf
      refine r_cut [_, _, _, _, _, _, _, _] (fun τ w => ∃ (K1668 : KM) (C1671 : Chunks) (C1674 : Chunks) (C1679 : Chunks), τ = [(0, (.slice a2 p1.length c3)), (3, (.pointer (some ⟨b16, 0, none⟩))), (4, (.pointer (some ⟨b24, 0, none⟩))), (5, (.slice a32 x27.1.length c33)), (6, (.int .i64 v1482)), (65, (.bool s1681.2))] ∧ KM.le K K1668 ∧ SlK 9 K1668 a2 c3 p1 ∧ SetO 59 K1668 b16 s1681.1 C1671 ∧ WorkO 72 59 9 K1668 b24 x1612.2.2 C1674 ∧ OwnS 9 K1668 (.slice a32 x27.1.length c33) x27.1 C1679 ∧ Sat w K1668 (flat [C1671, C1674, C1679, L])) rfl (fun J hJ => ?_) ?_
      · replace hf := hst1682
        cases hc : s1641
        · replace hf := bif_f hc hf
          iterate 3 refine s_v rfl rfl rfl ?_
          obtain ⟨x1683, hx1684, hf⟩ := bs hf
          refine s_ixo 2 hS rfl h1636 hx1684 rfl rfl rfl rfl rfl rfl rfl ?_
          intro b1685 l1686 cs1689 l1687 hcs_ hC1690 hun1688
          obtain rfl := hcs_
          subst hC1690
          have hq1691 := KM.le.refl K1628
          refine s_ldm 2 0 hS rfl rfl rfl rfl rfl ?_
          obtain ⟨x1692, hx1693, hf⟩ := bs hf
          refine s_call isf20 (Sat.shut1 hS) (set_Set_string_Has_spec hx1693 h1630) rfl rfl rfl ?_
          rintro _ K1694 C1696 w hk1695 ⟨rfl, h1697⟩ hS
          iterate 2 refine s_v rfl rfl rfl ?_
          have hq := Option.some.inj hf
          subst hq
          replace h1629 := h1629.mono hk1695
          replace h1633 := h1633.mono hk1695
          replace h1636 := h1636.mono hk1695
          replace hle := hle.trans hk1695
          refine r_join hJ _ ⟨K1694, C1696, C1634, [(b1685, Cl (l1686 ++ (([(.string x1683)] : List Value) ++ l1687)) 9)], rfl, hle, h1629, h1697, h1633, h1636, hS⟩ ⟨rfl, rfl, rfl, rfl, rfl, rfl, trivial⟩
        replace hf := bif_t hc hf
        refine s_no rfl rfl ?_
        refine s_no rfl rfl ?_
        refine s_no rfl rfl ?_
        refine s_no rfl rfl ?_
        refine s_no rfl rfl ?_
        refine s_no rfl rfl ?_
        refine s_no rfl rfl ?_
        refine s_v rfl rfl rfl ?_
        have hq := Option.some.inj hf
        subst hq
        refine r_join hJ _ ⟨K1628, C1631, C1634, C1639, rfl, hle, h1629, h1630, h1633, h1636, hS⟩ ⟨rfl, rfl, rfl, rfl, rfl, rfl, trivial⟩
      rintro _ w ⟨K1668, C1671, C1674, C1679, rfl, hle, h1669, h1670, h1673, h1676, hS⟩
      refine s_v rfl rfl rfl ?_
      obtain ⟨s1728, hst1729, hf⟩ := bs hf
      refine r_cut [_, _, _, _, _, _, _] (fun τ w => ∃ (K1715 : KM) (C1718 : Chunks) (C1721 : Chunks) (C1726 : Chunks), τ = [(0, (.slice a2 p1.length c3)), (3, (.pointer (some ⟨b16, 0, none⟩))), (4, (.pointer (some ⟨b24, 0, none⟩))), (5, (.slice a32 x27.1.length c33)), (6, (.int .i64 v1482)), (73, (.bool s1728.2))] ∧ KM.le K K1715 ∧ SlK 9 K1715 a2 c3 p1 ∧ SetO 59 K1715 b16 s1728.1 C1718 ∧ WorkO 72 59 9 K1715 b24 x1612.2.2 C1721 ∧ OwnS 9 K1715 (.slice a32 x27.1.length c33) x27.1 C1726 ∧ Sat w K1715 (flat [C1718, C1721, C1726, L])) rfl (fun J hJ => ?_) ?_
      · replace hf := hst1729
        cases hc : s1681.2
        · replace hf := bif_f hc hf
          iterate 3 refine s_v rfl rfl rfl ?_
          obtain ⟨x1730, hx1731, hf⟩ := bs hf
          refine s_ixo 2 hS rfl h1676 hx1731 rfl rfl rfl rfl rfl rfl rfl ?_
          intro b1732 l1733 cs1736 l1734 hcs_ hC1737 hun1735
          obtain rfl := hcs_
          subst hC1737
          have hq1738 := KM.le.refl K1668
          refine s_ldm 2 0 hS rfl rfl rfl rfl rfl ?_
          obtain ⟨x1739, hx1740, hf⟩ := bs hf
          refine s_call isf29 (Sat.shut1 hS) (set_Set_string_Add_spec hx1740 h1670) rfl rfl rfl ?_
          rintro _ K1741 C1743 w hk1742 ⟨rfl, h1744⟩ hS
          refine s_v rfl rfl rfl ?_
          have hq := Option.some.inj hf
          subst hq
          replace h1669 := h1669.mono hk1742
          replace h1673 := h1673.mono hk1742
          replace h1676 := h1676.mono hk1742
          replace hle := hle.trans hk1742
          refine r_join hJ _ ⟨K1741, C1743, C1674, [(b1732, Cl (l1733 ++ (([(.string x1730)] : List Value) ++ l1734)) 9)], rfl, hle, h1669, h1744, h1673, h1676, hS⟩ ⟨rfl, rfl, rfl, rfl, rfl, rfl, trivial⟩
        replace hf := bif_t hc hf
        refine s_no rfl rfl ?_
        refine s_no rfl rfl ?_
        refine s_no rfl rfl ?_
        refine s_no rfl rfl ?_
        refine s_no rfl rfl ?_
        refine s_no rfl rfl ?_
        refine s_v rfl rfl rfl ?_
        have hq := Option.some.inj hf
        subst hq
        refine r_join hJ _ ⟨K1668, C1671, C1674, C1679, rfl, hle, h1669, h1670, h1673, h1676, hS⟩ ⟨rfl, rfl, rfl, rfl, rfl, rfl, trivial⟩
      rintro _ w ⟨K1715, C1718, C1721, C1726, rfl, hle, h1716, h1717, h1720, h1723, hS⟩
      refine s_nil (qn ?_)
      refine s_if rfl (fun hc => ?_) (fun hc => ?_)
      · replace hf := bif_t hc hf
        refine s_seq (s_reg ?_)
        refine s_v rfl rfl rfl ?_
        refine s_nil (qn ?_)
        replace hS : Sat w K1715 (flat [_]) := (hS.sel [3] rfl)
        refine s_rets (qrb (qrt (qrt (qrb (qrt ?_)))))
        replace hf := LR.esc_some hf hm898
        have hq := Option.some.inj hf
        subst hq
        refine s_ret1 rfl (rv_t rfl) ?_
        exact ⟨K1715, _, hle, rfl, Sat.nilG (hS.sel [0] rfl)⟩
      replace hf := bif_f hc hf
      refine s_skip (qbn (qn (s_reg ?_)))
      iterate 3 refine s_v rfl rfl rfl ?_
      refine s_nil (qn ?_)
      refine s_join hY _ ⟨s1728.1, x1612.2.2, w64 (v1482 + 1), K1715, C1718, C1721, C1726, hf, rfl, hle, h1716, h1717, h1720, h1723, hS⟩ ⟨rfl, rfl, rfl, rfl, rfl, trivial⟩
    replace hf := bif_f hc hf
    refine s_exit (qxt (qxt (qxb (qn ?_))))
    have hq := Option.some.inj hf
    subst hq
    refine s_join hJ _ ⟨(v1480, v1481), K1467, C1470, C1473, rfl, rfl, hle, h1468, h1469, h1472, (hS.sel [0, 1, 3] rfl)⟩ ⟨rfl, rfl, rfl, trivial⟩
  rintro _ w ⟨s895, K887, C890, C893, rfl, rfl, hle, h888, h889, h892, hS⟩
  replace hf := LR.elim_brk hm898
  refine s_seq (s_reg ?_)
  refine s_v rfl rfl rfl ?_
  obtain ⟨x1746, hx1747, hf⟩ := bs hf
  refine s_call isf28 (Sat.shut1 (hS.sel [1, 0, 2] rfl)) (set_Work_string_Take_spec hx1747 h892) rfl rfl rfl ?_
  rintro _ K1748 C1750 w hk1749 ⟨rfl, h1751⟩ hS
  iterate 5 refine s_v rfl rfl rfl ?_
  refine s_nil (qn ?_)
  replace hS : Sat w K1748 (flat [_, _]) := (hS.sel [1, 2] rfl)
  refine s_seq (s_reg ?_)
  iterate 3 refine s_v rfl rfl rfl ?_
  obtain ⟨s1783, hst1784, hf⟩ := bs hf
  refine r_cut [_, _, _, _, _, _] (fun τ w => ∃ (K1782 : KM), τ = [(87, (.bool s1783))] ∧ KM.le K K1782 ∧ Sat w K1782 (flat [L])) rfl (fun J hJ => ?_) ?_
  · replace hf := hst1784
    cases hc : (!x1746.2.1)
    · replace hf := bif_f hc hf
      refine s_no rfl rfl ?_
      refine s_no rfl rfl ?_
      refine s_no rfl rfl ?_
      refine s_no rfl rfl ?_
      refine s_no rfl rfl ?_
      refine s_v rfl rfl rfl ?_
      have hq := Option.some.inj hf
      subst hq
      replace hle := hle.trans hk1749
      refine r_join hJ _ ⟨K1748, rfl, hle, (hS.sel [1] rfl)⟩ ⟨rfl, trivial⟩
    replace hf := bif_t hc hf
    refine s_v rfl rfl rfl ?_
    obtain ⟨x1785, hx1786, hf⟩ := bs hf
    replace h889 := h889.mono hk1749
    refine s_call isf18 (Sat.shut1 hS) (set_Set_string_List_spec hx1786 h889) rfl rfl rfl ?_
    rintro _ K1787 _ w hk1788 ⟨a1790, c1791, C1794, C1795, rfl, h1792, h1793, rfl⟩ hS
    replace hS := hS.open2
    refine s_v rfl rfl rfl ?_
    obtain ⟨x1798, hx1799, hf⟩ := bs hf
    replace h888 := h888.mono (hk1749.trans hk1788)
    refine s_call isf19 hS.nilG (bonsairef7_Sorted_spec hx1799 h888) rfl rfl rfl ?_
    rintro _ K1800 C1802 w hk1801 ⟨a1803, c1804, rfl, h1805⟩ hS
    replace hS := hS.drop1
    replace h1792 := h1792.mono hk1801
    obtain ⟨K1806, hk1807, h1808, hS⟩ := h1792.freeze (hS.sel [0, 1, 2] rfl)
    replace hS : Sat w _ (flat [_, _]) := hS
    obtain ⟨x1809, hx1810, hf⟩ := bs hf
    replace h1805 := h1805.mono hk1807
    refine s_call isf17 hS.nilG (bonsaihelp_Strings_spec hx1810 h1808 h1805) rfl rfl rfl ?_
    rintro _ K1811 C1813 w hk1812 rfl hS
    replace hS := hS.drop1
    refine s_v rfl rfl rfl ?_
    have hq := Option.some.inj hf
    subst hq
    have hkk1 := (((hk1749.trans hk1788).trans hk1801).trans hk1807).trans hk1812
    replace hle := hle.trans hkk1
    refine r_join hJ _ ⟨K1811, rfl, hle, (hS.sel [1] rfl)⟩ ⟨rfl, trivial⟩
  rintro _ w ⟨K1782, rfl, hle, hS⟩
  refine s_v rfl rfl rfl ?_
  refine s_nil (qn (s_rets ?_))
  have hq := Option.some.inj hf
  subst hq
  refine s_ret1 rfl (rv_t rfl) ?_
  exact ⟨K1782, _, hle, rfl, Sat.nilG (hS.sel [0] rfl)⟩
end Go.Proofs.Ytdgpckcphkpclaa
