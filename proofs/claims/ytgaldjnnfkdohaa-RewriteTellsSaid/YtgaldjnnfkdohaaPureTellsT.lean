/- What RewriteTells reckons is true, whatever it is told: the law. -/
import Derived.Test.YtgaldjnnfkdohaaPureTells
set_option linter.unusedVariables false
set_option linter.unusedSimpArgs false
namespace Go.Proofs.Ytgaldjnnfkdohaa
open Go Go.Fw

/-- so many rows, none too long -/
def Rows (n r : Nat) (W : List (List api_Instr)) : Prop := W.length = n ∧ ∀ s ∈ W, s.length ≤ r
theorem Rows.mono {n r r' : Nat} {W : List (List api_Instr)} (h : Rows n r W) (hr : r ≤ r') : Rows n r' W := ⟨h.1, fun s hs => Nat.le_trans (h.2 s hs) hr⟩

theorem cat_rows {m : api_Method} {W : List (List api_Instr)} (h : ∀ s ∈ W, s.length ≤ 60) : ∀ q, (cat m W q).length ≤ 60 * q := by
  intro q
  induction q with
  | zero => simp [cat]
  | succ q ih =>
    rw [cat_succ, List.length_append]
    have : (seg m W q).length ≤ 60 := by
      unfold seg
      have h1 : (m.Code[q]?).toList.length ≤ 60 := by cases m.Code[q]? <;> simp
      split
      · rename_i s hs
        cases Nat.blt 0 s.length with
        | true => exact h s (List.mem_of_getElem? hs)
        | false => exact h1
      · exact h1
    omega

theorem with_l1 (fu : Nat) (l : List Arr3_uint8) (n : Nat) (hn0 : 0 < n) (hn : n ≤ 100000) (q : Nat) (y : Arr3_uint8) (hy : l[q]? = some y) (h1 : 0 ≤ y.e1) (h2 : 0 ≤ y.e2 ∧ y.e2 ≤ 255) (p : Nat) (hp : p < n) (r : Nat) (hr : r ≤ 1000) : ∀ (d k j : Nat) (W : List (List api_Instr)), 3 - j ≤ d → d < k → j ≤ 3 → Rows n (r + j) W →
    Ok (Rows n (r + 3)) (bonsailaw19_with.l1 fu l (q : Int) k W (p : Int) (j : Int)) := by
  have hm := tmod_nn h1 (show (0 : Int) < 4 by decide)
  intro d
  induction d with
  | zero =>
    intro k j W hj hk hj3 hW
    obtain ⟨k, rfl⟩ : ∃ q, k = q + 1 := ⟨k - 1, by omega⟩
    unfold bonsailaw19_with.l1
    rw [idx_nat, hy]
    simp only [Option.bind_some]
    rw [w64_eq (x := Int.tmod y.e1 4) (by omega) (by omega), show decide ((j : Int) < Int.tmod y.e1 4) = false by simp; omega]
    exact Ok.some (hW.mono (by omega))
  | succ d ih =>
    intro k j W hj hk hj3 hW
    obtain ⟨k, rfl⟩ : ∃ q, k = q + 1 := ⟨k - 1, by omega⟩
    unfold bonsailaw19_with.l1
    rw [idx_nat, hy]
    simp only [Option.bind_some]
    rw [w64_eq (x := Int.tmod y.e1 4) (by omega) (by omega)]
    refine Ok.bif (fun hc => ?_) (fun _ => Ok.some (hW.mono (by omega)))
    simp only [decide_eq_true_eq] at hc
    rw [hW.1, w64_eq (x := (n : Int) + 1) (by omega) (by omega), w64_eq (x := (j : Int) + 1) (by omega) (by omega)]
    refine Ok.bind (P := fun _ => True) (Ok.bif (fun _ => Ok.guard (by rw [bne_iff_ne]; omega) (Ok.bind (pick_ok (by omega) (by decide) rfl) fun _ _ => Ok.some trivial)) (fun _ => Ok.some trivial)) fun s _ => ?_
    have hpl : p < W.length := by rw [hW.1]; exact hp
    simp only [idx_nat, List.getElem?_eq_getElem hpl, Option.bind_some, Int.toNat_natCast]
    have hrow := hW.2 _ (List.getElem_mem hpl)
    refine Ok.guard (roomy_of (by omega)) ?_
    have := ih k (j + 1) (W.set p (W[p] ++ [⟨s.1, 0, s.2, ByteArray.empty, ByteArray.empty, ByteArray.empty, ByteArray.empty⟩])) (by omega) (by omega) (by omega) ⟨by rw [List.length_set]; exact hW.1, fun x hx => by
      rcases List.mem_or_eq_of_mem_set hx with hx | rfl
      · have := hW.2 x hx; omega
      · simp; omega⟩
    rw [show ((j + 1 : Nat) : Int) = (j : Int) + 1 by omega] at this
    exact this

theorem with_l0 (fu : Nat) (hfu : 100 < fu) (l : List Arr3_uint8) (hl : l.length ≤ 20) (hw : ∀ y ∈ l, 0 ≤ y.e0 ∧ y.e0 ≤ 255 ∧ 0 ≤ y.e1 ∧ 0 ≤ y.e2 ∧ y.e2 ≤ 255) (n : Nat) (hn : n ≤ 100000) : ∀ (d k i : Nat) (W : List (List api_Instr)), 20 - i ≤ d → d < k → i ≤ l.length → Rows n (3 * i) W →
    Ok (Rows n 60) (bonsailaw19_with.l0 fu l k W (i : Int)) := by
  intro d
  induction d with
  | zero =>
    intro k i W hi hk hil hW
    obtain ⟨k, rfl⟩ : ∃ q, k = q + 1 := ⟨k - 1, by omega⟩
    unfold bonsailaw19_with.l0
    rw [show decide ((i : Int) < (l.length : Int)) = false by simp; omega]
    exact Ok.some (hW.mono (by omega))
  | succ d ih =>
    intro k i W hi hk hil hW
    obtain ⟨k, rfl⟩ : ∃ q, k = q + 1 := ⟨k - 1, by omega⟩
    unfold bonsailaw19_with.l0
    refine Ok.bind (P := fun s => s = true → i < l.length ∧ 0 < n) (Ok.bif (fun hc => Ok.some (fun hs => ?_)) (fun _ => Ok.some (fun h => by cases h))) fun s hs => ?_
    · simp only [decide_eq_true_eq] at hc hs
      rw [hW.1] at hs
      omega
    refine Ok.bif (fun hst => ?_) (fun _ => Ok.some (hW.mono (by omega)))
    obtain ⟨hlt, hn0⟩ := hs hst
    have hy := hw _ (List.getElem_mem hlt)
    rw [w64_eq (x := (i : Int) + 1) (by omega) (by omega)]
    refine Ok.bind (P := Rows n (3 * (i + 1))) ?_ (fun W' hW' => ?_)
    · simp only [idx_nat, List.getElem?_eq_getElem hlt, Option.bind_some]
      rw [hW.1]
      refine Ok.guard (by rw [bne_iff_ne]; omega) ?_
      rw [w64_eq (x := (l[i]).e0) (by omega) (by omega)]
      have hp := tmod_nn hy.1 (show (0 : Int) < (n : Int) by omega)
      obtain ⟨p, hpe⟩ : ∃ p : Nat, Int.tmod (l[i]).e0 (n : Int) = p := ⟨(Int.tmod (l[i]).e0 (n : Int)).toNat, by omega⟩
      rw [hpe]
      exact with_l1 fu l n hn0 hn i l[i] (List.getElem?_eq_getElem hlt) hy.2.2.1 hy.2.2.2 p (by omega) (3 * i) (by omega) 3 fu 0 W (by omega) (by omega) (by omega) (hW.mono (by omega))
    · have := ih k (i + 1) W' (by omega) (by omega) (by omega) hW'
      rw [show ((i + 1 : Nat) : Int) = (i : Int) + 1 by omega] at this
      exact this

theorem with_ok (fu : Nat) (hfu : 100 < fu) (m : api_Method) (l : List Arr3_uint8) (hl : l.length ≤ 20) (hw : ∀ y ∈ l, 0 ≤ y.e0 ∧ y.e0 ≤ 255 ∧ 0 ≤ y.e1 ∧ 0 ≤ y.e2 ∧ y.e2 ≤ 255) (hn : m.Code.length ≤ 10000) :
    Ok (Rows m.Code.length 60) (bonsailaw19_with.fn fu m l) := by
  unfold bonsailaw19_with.fn
  refine Ok.guard (mayMake_of (by omega) (by omega)) ?_
  refine Ok.bind (with_l0 fu hfu l hl hw m.Code.length (by omega) 20 fu 0 _ (by omega) (by omega) (by omega) ⟨by simp, fun s hs => ?_⟩) fun W hW => Ok.some hW
  have := List.eq_of_mem_replicate hs
  subst this; simp

theorem fits_same (m : api_Method) : Ok (fun b => bonsairef18_Fits.fn m = some b) (rewrite_Fits.fn m) := by
  unfold rewrite_Fits.fn bonsairef18_Fits.fn
  cases decide ((m.Code.length : Int) ≤ 2000) <;> cases decide (m.Locals ≤ 200) <;> exact ⟨_, rfl, rfl⟩

/-- a method that may be asked here -/
structure Asked (m : api_Method) : Prop where
  code : m.Code.length ≤ 10000
  hand : m.Handlers.length ≤ 10000
  pars : m.Params.length ≤ 10000

theorem tells_one (fu : Nat) (hfu : 1000001 < fu) (m : api_Method) (hm : Asked m) (W : List (List api_Instr)) (hW : ∀ s ∈ W, s.length ≤ 60) :
    Ok (fun p => bonsairef18_Rewritten.fn fu m W = some p ∧ (p.2 = true → bonsairef1_SameMethod.fn fu p.1 p.1 = some true) ∧ (p.2 = false → p.1 = zeroM)) (rewrite_Method.fn fu m W) := by
  have hc := cat_rows (m := m) hW m.Code.length
  have h1 := hm.code; have h2 := hm.hand; have h3 := hm.pars
  rw [rew_eq fu m W (by omega) (by omega) (by omega) hfu, ref_eq fu m W (by omega) (by omega) (by omega) hfu]
  split
  · rename_i h
    refine ⟨_, rfl, rfl, fun _ => ?_, fun h => by cases h⟩
    exact meth_same fu _ (by simp only; omega) (by simp only [List.length_map]; omega) (by simp only [List.length_map]; omega) hfu
  · exact ⟨_, rfl, rfl, (fun h => by cases h), fun _ => rfl⟩

theorem tells_l2 (fu : Nat) (hfu : 1000001 < fu) (m : api_Method) (hm : Asked m) (Y : List (List (List api_Instr))) (hl : Y.length = 3) (hY : ∀ W ∈ Y, ∀ s ∈ W, s.length ≤ 60) : ∀ (d k i : Nat), 3 - i ≤ d → d < k → i ≤ 3 →
    bonsailaw19_RewriteTells.l2 fu m k Y (i : Int) = some (.brk ()) := by
  intro d
  induction d with
  | zero =>
    intro k i hi hk hi3
    obtain ⟨k, rfl⟩ : ∃ q, k = q + 1 := ⟨k - 1, by omega⟩
    have e : i = 3 := by omega
    subst e
    unfold bonsailaw19_RewriteTells.l2
    rfl
  | succ d ih =>
    intro k i hi hk hi3
    obtain ⟨k, rfl⟩ : ∃ q, k = q + 1 := ⟨k - 1, by omega⟩
    by_cases e : i = 3
    · subst e
      unfold bonsailaw19_RewriteTells.l2
      rfl
    have hlt : i < Y.length := by omega
    have IH := ih k (i + 1) (by omega) (by omega) (by omega)
    rw [show ((i + 1 : Nat) : Int) = (i : Int) + 1 by omega] at IH
    unfold bonsailaw19_RewriteTells.l2
    rw [show decide ((i : Int) < 3) = true by simp; omega, w64_eq (x := (i : Int) + 1) (by omega) (by omega)]
    simp only [cond_true, idx_nat, List.getElem?_eq_getElem hlt, Option.bind_some]
    obtain ⟨p, h1, h2, h3, h4⟩ := tells_one fu hfu m hm Y[i] (hY _ (List.getElem_mem hlt))
    rw [h1]
    simp only [Option.bind_some]
    rw [h2]
    simp only [Option.bind_some, beq_self_eq_true, Bool.not_true, cond_false]
    obtain ⟨f, f1, f2⟩ := fits_same p.1
    cases hp : p.2 with
    | true =>
      simp only [cond_true]
      rw [h3 hp, f1, f2]
      simp only [Option.bind_some, Bool.not_true, cond_false, beq_self_eq_true]
      exact IH
    | false =>
      have := h4 hp
      rw [this] at f1 f2 ⊢
      simp only [cond_false]
      rw [f1, f2]
      simp only [Option.bind_some, beq_self_eq_true, Bool.not_true]
      rw [show ((zeroM.Code.length : Int) != 0) = false from rfl, show zeroM.Name = (⟨#[]⟩ : ByteArray) from rfl]
      simp only [beq_self_eq_true, Bool.not_true, cond_false, Option.bind_some]
      exact IH

theorem tells_l1 (fu : Nat) (hfu : 1000001 < fu) (m0 m1 : api_Method) (l : List Arr3_uint8) (cut : Int) (hcut : 0 ≤ cut ∧ cut ≤ 255) (C : List api_Instr) (hl : l.length ≤ 20) (hw : ∀ y ∈ l, 0 ≤ y.e0 ∧ y.e0 ≤ 255 ∧ 0 ≤ y.e1 ∧ 0 ≤ y.e2 ∧ y.e2 ≤ 255)
    (a0 : Asked m0) (a1 : Asked m1) (hC : C.length ≤ 10000) : ∀ (d k i : Nat), 3 - i ≤ d → d < k → i ≤ 3 →
    bonsailaw19_RewriteTells.l1 fu m0 l cut C m1 k (i : Int) = some (.brk ()) := by
  intro d
  induction d with
  | zero =>
    intro k i hi hk hi3
    obtain ⟨k, rfl⟩ : ∃ q, k = q + 1 := ⟨k - 1, by omega⟩
    have e : i = 3 := by omega
    subst e
    unfold bonsailaw19_RewriteTells.l1
    rfl
  | succ d ih =>
    intro k i hi hk hi3
    obtain ⟨k, rfl⟩ : ∃ q, k = q + 1 := ⟨k - 1, by omega⟩
    by_cases e : i = 3
    · subst e
      unfold bonsailaw19_RewriteTells.l1
      rfl
    have IH := ih k (i + 1) (by omega) (by omega) (by omega)
    rw [show ((i + 1 : Nat) : Int) = (i : Int) + 1 by omega] at IH
    unfold bonsailaw19_RewriteTells.l1
    rw [show decide ((i : Int) < 3) = true by simp; omega, w64_eq (x := (i : Int) + 1) (by omega) (by omega)]
    obtain ⟨m, hm, am⟩ : ∃ m, idx [m0, m1, (api_Method.mk ByteArray.empty [] (api_Type.mk 0 ByteArray.empty) true false 0 C [])] (i : Int) = some m ∧ Asked m := by
      rw [idx_nat]
      match i, e, hi3 with
      | 0, _, _ => exact ⟨m0, rfl, a0⟩
      | 1, _, _ => exact ⟨m1, rfl, a1⟩
      | 2, _, _ => exact ⟨_, rfl, ⟨hC, by simp, by simp⟩⟩
      | j + 3, h1, h2 => exact absurd h2 (by omega)
    simp only [cond_true]
    rw [hm]
    simp only [Option.bind_some]
    obtain ⟨W, hW0, hW⟩ := with_ok fu (by omega) m l hl hw am.code
    rw [hW0]
    simp only [Option.bind_some]
    have hn := am.code
    rw [hW.1, w64_eq (x := (m.Code.length : Int) + 1) (by omega) (by omega), w64_eq (x := cut) (by omega) (by omega)]
    have ht := tmod_nn hcut.1 (show (0 : Int) < (m.Code.length : Int) + 1 by omega)
    rw [w64_eq (x := (m.Code.length : Int) - Int.tmod cut ((m.Code.length : Int) + 1)) (by omega) (by omega)]
    have hsub : subOk m.Code.length 0 ((m.Code.length : Int) - Int.tmod cut ((m.Code.length : Int) + 1)) = true := by
      unfold subOk; simp; omega
    rw [hsub, show (((m.Code.length : Int) + 1) != 0) = true by rw [bne_iff_ne]; omega]
    simp only [guardB, cond_true]
    have h2 := tells_l2 fu hfu m am [W, subl W 0 ((m.Code.length : Int) - Int.tmod cut ((m.Code.length : Int) + 1)), []] rfl (by
      intro V hV s hs
      simp only [List.mem_cons, List.not_mem_nil, or_false] at hV
      rcases hV with rfl | rfl | rfl
      · exact hW.2 s hs
      · unfold subl at hs
        exact hW.2 s (List.mem_of_mem_take (List.mem_of_mem_drop hs))
      · cases hs) 3 fu 0 (by omega) (by omega) (by omega)
    rw [show (0 : Int) = ((0 : Nat) : Int) from rfl] at h2 ⊢
    rw [h2]
    obtain ⟨f, f1, f2⟩ := fits_same m
    simp only [LR.then, Option.bind_some, LR.elim]
    rw [f1, f2]
    simp only [Option.bind_some, beq_self_eq_true, Bool.not_true, cond_false]
    exact IH


theorem tells_l0 (fu : Nat) (x : Int) (n : Nat) (hx : w64 (1990 + (w64 (Int.tmod x 12))) = n) (hn : n ≤ 5000) : ∀ (d k i : Nat) (C : List api_Instr), n - i ≤ d → d < k → C.length = i → i ≤ n →
    Ok (fun C => C.length ≤ 10000) (bonsailaw19_RewriteTells.l0 fu x k C (i : Int)) := by
  intro d
  induction d with
  | zero =>
    intro k i C hi hk hC hin
    obtain ⟨k, rfl⟩ : ∃ q, k = q + 1 := ⟨k - 1, by omega⟩
    unfold bonsailaw19_RewriteTells.l0
    rw [hx, show decide ((i : Int) < (n : Int)) = false by simp; omega]
    exact Ok.some (by omega)
  | succ d ih =>
    intro k i C hi hk hC hin
    obtain ⟨k, rfl⟩ : ∃ q, k = q + 1 := ⟨k - 1, by omega⟩
    unfold bonsailaw19_RewriteTells.l0
    rw [hx]
    refine Ok.bif (fun hc => ?_) (fun _ => Ok.some (by omega))
    simp only [decide_eq_true_eq] at hc
    refine Ok.guard (roomy_of (by omega)) ?_
    rw [w64_eq (x := (i : Int) + 1) (by omega) (by omega)]
    have := ih k (i + 1) (C ++ [⟨40, 0, 0, ByteArray.empty, ByteArray.empty, ByteArray.empty, ByteArray.empty⟩]) (by omega) (by omega) (by simp; omega) (by omega)
    rw [show ((i + 1 : Nat) : Int) = (i : Int) + 1 by omega] at this
    exact this

/-- a loop that goes over a list and only looks -/
theorem look_l0 (fu : Nat) (m : api_Method) (h : m.Params.length ≤ 100) : ∀ (d k i : Nat), m.Params.length - i ≤ d → d < k → i ≤ m.Params.length → Ok (LRp (fun _ : Unit => True) (fun b : Bool => b = false)) (bonsaihelp_Method.l0 fu m k (i : Int)) := by
  intro d
  induction d with
  | zero =>
    intro k i hi hk hin
    obtain ⟨k, rfl⟩ : ∃ q, k = q + 1 := ⟨k - 1, by omega⟩
    unfold bonsaihelp_Method.l0
    rw [show decide ((i : Int) < (m.Params.length : Int)) = false by simp; omega]
    exact ⟨_, rfl, trivial⟩
  | succ d ih =>
    intro k i hi hk hin
    obtain ⟨k, rfl⟩ : ∃ q, k = q + 1 := ⟨k - 1, by omega⟩
    unfold bonsaihelp_Method.l0
    refine Ok.bif (fun hc => ?_) (fun _ => ⟨_, rfl, trivial⟩)
    simp only [decide_eq_true_eq] at hc
    rw [w64_eq (x := (i : Int) + 1) (by omega) (by omega), idx_nat, List.getElem?_eq_getElem (by omega)]
    refine Ok.bif (fun _ => Ok.lesc (Ok.some rfl)) (fun _ => ?_)
    have := ih k (i + 1) (by omega) (by omega) (by omega)
    rw [show ((i + 1 : Nat) : Int) = (i : Int) + 1 by omega] at this
    exact this

theorem look_l1 (fu : Nat) (m : api_Method) (h : m.Code.length ≤ 100) : ∀ (d k i : Nat), m.Code.length - i ≤ d → d < k → i ≤ m.Code.length → Ok (LRp (fun _ : Unit => True) (fun b : Bool => b = false)) (bonsaihelp_Method.l1 fu m k (i : Int)) := by
  intro d
  induction d with
  | zero =>
    intro k i hi hk hin
    obtain ⟨k, rfl⟩ : ∃ q, k = q + 1 := ⟨k - 1, by omega⟩
    unfold bonsaihelp_Method.l1
    rw [show decide ((i : Int) < (m.Code.length : Int)) = false by simp; omega]
    exact ⟨_, rfl, trivial⟩
  | succ d ih =>
    intro k i hi hk hin
    obtain ⟨k, rfl⟩ : ∃ q, k = q + 1 := ⟨k - 1, by omega⟩
    unfold bonsaihelp_Method.l1
    refine Ok.bif (fun hc => ?_) (fun _ => ⟨_, rfl, trivial⟩)
    simp only [decide_eq_true_eq] at hc
    rw [w64_eq (x := (i : Int) + 1) (by omega) (by omega), idx_nat, List.getElem?_eq_getElem (by omega)]
    simp only [Option.bind_some, bonsaihelp_Instr.fn]
    refine Ok.bif (fun _ => Ok.lesc (Ok.some rfl)) (fun _ => ?_)
    have := ih k (i + 1) (by omega) (by omega) (by omega)
    rw [show ((i + 1 : Nat) : Int) = (i : Int) + 1 by omega] at this
    exact this

theorem look_l2 (fu : Nat) (m : api_Method) (h : m.Handlers.length ≤ 100) : ∀ (d k i : Nat), m.Handlers.length - i ≤ d → d < k → i ≤ m.Handlers.length → Ok (LRp (fun _ : Unit => True) (fun b : Bool => b = false)) (bonsaihelp_Method.l2 fu m k (i : Int)) := by
  intro d
  induction d with
  | zero =>
    intro k i hi hk hin
    obtain ⟨k, rfl⟩ : ∃ q, k = q + 1 := ⟨k - 1, by omega⟩
    unfold bonsaihelp_Method.l2
    rw [show decide ((i : Int) < (m.Handlers.length : Int)) = false by simp; omega]
    exact ⟨_, rfl, trivial⟩
  | succ d ih =>
    intro k i hi hk hin
    obtain ⟨k, rfl⟩ : ∃ q, k = q + 1 := ⟨k - 1, by omega⟩
    unfold bonsaihelp_Method.l2
    refine Ok.bif (fun hc => ?_) (fun _ => ⟨_, rfl, trivial⟩)
    simp only [decide_eq_true_eq] at hc
    rw [w64_eq (x := (i : Int) + 1) (by omega) (by omega), idx_nat, List.getElem?_eq_getElem (by omega)]
    refine Ok.bif (fun _ => Ok.lesc (Ok.some rfl)) (fun _ => ?_)
    have := ih k (i + 1) (by omega) (by omega) (by omega)
    rw [show ((i + 1 : Nat) : Int) = (i : Int) + 1 by omega] at this
    exact this

theorem help_ok (fu : Nat) (hfu : 1000 < fu) (m : api_Method) : Ok (fun b => b = true → Asked m) (bonsaihelp_Method.fn fu m) := by
  unfold bonsaihelp_Method.fn
  refine Ok.bind (P := fun s => s = false → m.Params.length ≤ 10) (Ok.bif (fun _ => Ok.some (fun h => by cases h)) (fun _ => Ok.some (fun h => ?_))) fun s1 h1 => ?_
  · simp only [decide_eq_false_iff_not] at h; omega
  refine Ok.bind (P := fun s => s = false → m.Params.length ≤ 10 ∧ m.Code.length ≤ 30) (Ok.bif (fun _ => Ok.some (fun h => by cases h)) (fun hs => Ok.some (fun h => ?_))) fun s2 h2 => ?_
  · simp only [decide_eq_false_iff_not] at h; exact ⟨h1 hs, by omega⟩
  refine Ok.bind (P := fun s => s = false → m.Params.length ≤ 10 ∧ m.Code.length ≤ 30 ∧ m.Handlers.length ≤ 6) (Ok.bif (fun _ => Ok.some (fun h => by cases h)) (fun hs => Ok.some (fun h => ?_))) fun s3 h3 => ?_
  · simp only [decide_eq_false_iff_not] at h; exact ⟨(h2 hs).1, (h2 hs).2, by omega⟩
  refine Ok.bind (P := fun s => s = false → m.Params.length ≤ 10 ∧ m.Code.length ≤ 30 ∧ m.Handlers.length ≤ 6) (Ok.bif (fun _ => Ok.some (fun h => by cases h)) (fun hs => Ok.some (fun _ => h3 hs))) fun s4 h4 => ?_
  refine Ok.bif (fun _ => Ok.some (fun h => by cases h)) (fun hs => ?_)
  obtain ⟨a, b, c⟩ := h4 hs
  have A : Asked m := ⟨by omega, by omega, by omega⟩
  have z : ∀ P : Bool → Prop, True := fun _ => trivial
  refine Ok.lthen (S := fun _ => True) ((look_l0 fu m (by omega) m.Params.length fu 0 (by omega) (by omega) (by omega)).mono fun v hv => ?_) fun _ _ => ?_
  · cases v with
    | brk s => trivial
    | ret r => exact fun h => A
  refine Ok.lthen (S := fun _ => True) ((look_l1 fu m (by omega) m.Code.length fu 0 (by omega) (by omega) (by omega)).mono fun v hv => ?_) fun _ _ => ?_
  · cases v with
    | brk s => trivial
    | ret r => exact fun h => A
  refine Ok.lthen (S := fun _ => True) ((look_l2 fu m (by omega) m.Handlers.length fu 0 (by omega) (by omega) (by omega)).mono fun v hv => ?_) fun _ _ => Ok.some (fun _ => A)
  cases v with
  | brk s => trivial
  | ret r => exact fun h => A

theorem bonsailaw19_RewriteTells_true (m : api_Method) (wm : GoOpen.wf Try.prog 67 m) (k : Arr4_uint8) (hk : GoOpen.wf Try.prog 68 k) (l : List Int) (hl : l.length ≤ maxLen) (hw : ∀ y ∈ l, GoOpen.wf Try.prog 5 y)
    (w : List Arr3_uint8) (hwl : w.length ≤ maxLen) (hww : ∀ y ∈ w, GoOpen.wf Try.prog 121 y) (cut : Int) (wc : (Lit.int .u8 cut).wf = true) (n : Int) (wn : (Lit.int .u16 n).wf = true) :
    ∃ fu, bonsailaw19_RewriteTells.fn fu m k l w cut n = some true := by
  refine ⟨2000000, ?_⟩
  unfold bonsailaw19_RewriteTells.fn
  rw [known19]
  simp only [Option.bind_some, Bool.not_true, cond_false]
  obtain ⟨hb, hh, hA⟩ := help_ok 2000000 (by omega) m
  rw [hh]
  simp only [Option.bind_some]
  cases hb with
  | false => rfl
  | true =>
    have A := hA rfl
    simp only [Bool.not_true, cond_false, Option.bind_some]
    by_cases h40 : (l.length : Int) > 40
    · rw [show decide ((l.length : Int) > 40) = true by simpa using h40]; rfl
    rw [show decide ((l.length : Int) > 40) = false by simpa using h40]
    simp only [cond_false, Option.bind_some]
    by_cases h20 : (w.length : Int) > 20
    · rw [show decide ((w.length : Int) > 20) = true by simpa using h20]; rfl
    rw [show decide ((w.length : Int) > 20) = false by simpa using h20]
    simp only [cond_false]
    obtain ⟨wk0, wk1, wk2, wk3⟩ := hk
    have bc := u8_bounds wc
    have bn : 0 ≤ n := by
      simp only [Lit.wf, Bool.and_eq_true, decide_eq_true_eq] at wn
      exact Int.le_trans (by decide) wn.1
    obtain ⟨z, hz, oz⟩ := archive_ok 2000000 (by omega) k (u8_bounds wk0).1 (u8_bounds wk3).1 l [] (by omega) (fun y hy => (u8_bounds (hw y hy)).1) (by simp) (fun y hy => by cases hy)
    rw [hz]
    simp only [Option.bind_some]
    have tn := tmod_nn bn (show (0 : Int) < 12 by decide)
    obtain ⟨q, hq⟩ : ∃ q : Nat, Int.tmod n 12 = q := ⟨(Int.tmod n 12).toNat, by omega⟩
    obtain ⟨C, hC0, hC⟩ := tells_l0 2000000 n (1990 + q) (by rw [hq, w64_eq (x := (q : Int)) (by omega) (by omega), w64_eq (by omega) (by omega)]; omega) (by omega) (1990 + q) 2000000 0 [] (by omega) (by omega) rfl (by omega)
    rw [show (0 : Int) = ((0 : Nat) : Int) from rfl, hC0]
    simp only [Option.bind_some]
    obtain ⟨c0, hc0, m1, r0, hm1, ok⟩ := oz.first
    rw [show ((0 : Nat) : Int) = 0 from rfl, idx0_of hc0]
    simp only [Option.bind_some]
    rw [idx0_of (show c0.Methods[0]? = some m1 by rw [hm1]; rfl)]
    simp only [Option.bind_some]
    obtain ⟨n0, n1, n2, n3, hj, hH⟩ := lens_of ok
    have hw3 : ∀ y ∈ w, 0 ≤ y.e0 ∧ y.e0 ≤ 255 ∧ 0 ≤ y.e1 ∧ 0 ≤ y.e2 ∧ y.e2 ≤ 255 := fun y hy => by
      obtain ⟨a, b, c⟩ := hww y hy
      have a := u8_bounds a; have b := u8_bounds b; have c := u8_bounds c
      exact ⟨a.1, a.2, b.1, c.1, c.2⟩
    have := tells_l1 2000000 (by omega) m m1 w cut bc C (by omega) hw3 A ⟨by omega, by omega, by omega⟩ hC 3 2000000 0 (by omega) (by omega) (by omega)
    rw [show ((0 : Nat) : Int) = 0 from rfl] at this
    rw [this]
    rfl

end Go.Proofs.Ytgaldjnnfkdohaa
