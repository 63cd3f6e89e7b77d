/- The statement's inputs by their cases, each run by the evaluator. -/
import Derived.Test.YtheedjgpfpghbaaGreatPInlineNotM
import Derived.IntWalk
import Derived.DataShut
set_option linter.unusedVariables false
namespace Go.Proofs.YtheedjgpfpghbaaGreat
open Go Go.Fw Go.Ev

theorem knLk (T : SymT) : ∀ m ∈ knL, m.chk (@memoC T) 92 = true := by
  intro m hm
  rcases List.mem_append.1 (show m ∈ knl0 ++ (knl1 ++ knl2) from by
    have : knL = knl0 ++ (knl1 ++ (knl2 ++ [])) := rfl
    rw [this, List.append_nil] at hm; exact hm) with h | h
  · exact List.all_eq_true.1 (knl0k T) m h
  · rcases List.mem_append.1 h with h | h
    · exact List.all_eq_true.1 (knl1k T) m h
    · exact List.all_eq_true.1 (knl2k T) m h

/-- numbers that aren't known: 1000 + r one that leaves r by 10, 2000 + r one that leaves r by 8 -/
def fcBin (o : BinOp) (i : Nat) (k : IntKind) (b : Int) : Option Value := match o, k, b with
  | .rem, .u8, .ofNat 10 => bif Nat.ble 1000 i && Nat.blt i 1010 then some (.int .u8 (.ofNat (Nat.sub i 1000))) else none
  | .rem, .u8, .ofNat 8 => bif Nat.ble 2000 i && Nat.blt i 2008 then some (.int .u8 (.ofNat (Nat.sub i 2000))) else none
  | _, _, _ => none
@[reducible] def fcT : SymT := ⟨fcBin, fun _ _ _ _ => none, fun _ _ => none⟩

noncomputable def fcE (r0 r1 : Nat) : Bool :=
  isTrue (@callE fcT tyT.get eqT.get zeT.get fnT.get (primL [(36, memoP (.bool true)), (210, insP 3), (213, ccP 251)]) 10000 11 [.chan (some (Nat.add 1000 r0)), .chan (some (Nat.add 2000 r1))] M0)
noncomputable def knE : Bool := isTrue (@callE fcT tyT.get eqT.get zeT.get fnT.get (primL [(92, memoQ knL), (210, insP 3), (213, ccP 251)]) 10000 36 [] M0)

theorem kn : knE = true := by kernel_rfl

/-- the inputs' numbers -/
def fcGet (r0 r1 : Nat) (x y : Int) (i : Nat) : Option (IntKind × Int) := bif Nat.beq i (1000 + r0) then some (.u8, x) else bif Nat.beq i (2000 + r1) then some (.u8, y) else none
@[reducible] def fcS (r0 r1 : Nat) (x y : Int) : Sym := { toSymT := fcT, get := fcGet r0 r1 x y }

theorem rem_nn {k : IntKind} {x : Int} (c : Nat) (h : 0 ≤ x) : intOp .rem k x (.ofNat (c + 1)) = some (.int k (x % ((c + 1 : Nat) : Int))) := by
  have e : intOp .rem k x (.ofNat (c + 1)) = some (.int k (x.tmod ((c + 1 : Nat) : Int))) := rfl
  rw [e, Int.tmod_eq_emod_of_nonneg h]

theorem fcGet_some {r0 r1 : Nat} {x y : Int} {i : Nat} {k : IntKind} {u : Int} (h : fcGet r0 r1 x y i = some (k, u)) : (i = 1000 + r0 ∧ k = .u8 ∧ u = x) ∨ (i = 2000 + r1 ∧ k = .u8 ∧ u = y) := by
  unfold fcGet at h
  cases h1 : Nat.beq i (1000 + r0) with
  | true => rw [h1] at h; cases h; exact .inl ⟨Nat.eq_of_beq_eq_true h1, rfl, rfl⟩
  | false =>
    rw [h1] at h
    cases h2 : Nat.beq i (2000 + r1) with
    | true => rw [h2] at h; cases h; exact .inr ⟨Nat.eq_of_beq_eq_true h2, rfl, rfl⟩
    | false => rw [h2] at h; cases h

theorem fc_ok {x y : Int} {r0 r1 : Nat} (hx : 0 ≤ x ∧ x ≤ 255) (hy : 0 ≤ y ∧ y ≤ 255) (h0 : x % 10 = (r0 : Int)) (h1 : y % 8 = (r1 : Int)) : @SymOk (fcS r0 r1 x y) := by
  letI := fcS r0 r1 x y
  refine ⟨fun o' i k b v h k0 u hz => ?_, fun o' i k b v h k0 u hz => ?_, fun i k v h k0 u hz ρ => ?_⟩
  · have h : fcBin o' i k b = some v := h
    have hz := fcGet_some (show fcGet r0 r1 x y i = some (k0, u) from hz)
    unfold fcBin at h
    split at h
    · cases hb : (Nat.ble 1000 i && Nat.blt i 1010) with
      | false => rw [hb] at h; cases h
      | true =>
        rw [hb] at h
        cases h
        simp only [Bool.and_eq_true, Nat.ble_eq, Nat.blt_eq] at hb
        rcases hz with ⟨rfl, rfl, rfl⟩ | ⟨rfl, rfl, rfl⟩
        · exact ⟨rfl, _, rem_nn 9 hx.1, fun ρ => by
            rw [show (((9 + 1 : Nat) : Int)) = 10 from rfl, h0, show Nat.sub (1000 + r0) 1000 = r0 from Nat.add_sub_cancel_left ..]; exact .plain rfl⟩
        · omega
    · cases hb : (Nat.ble 2000 i && Nat.blt i 2008) with
      | false => rw [hb] at h; cases h
      | true =>
        rw [hb] at h
        cases h
        simp only [Bool.and_eq_true, Nat.ble_eq, Nat.blt_eq] at hb
        rcases hz with ⟨rfl, rfl, rfl⟩ | ⟨rfl, rfl, rfl⟩
        · omega
        · exact ⟨rfl, _, rem_nn 7 hy.1, fun ρ => by
            rw [show (((7 + 1 : Nat) : Int)) = 8 from rfl, h1, show Nat.sub (2000 + r1) 2000 = r1 from Nat.add_sub_cancel_left ..]; exact .plain rfl⟩
    · cases h
  · cases h
  · cases h

theorem fc_calls {x y : Int} {r0 r1 : Nat} {W : World} (hs : @SymOk (fcS r0 r1 x y)) (h : fcE r0 r1 = true) (l0 : r0 < 1000) :
    Calls Tryz.prog 11 #[.int .u8 x, .int .u8 y] W (fun e W' => e = .returned (.bool true) ∧ Go.RowKit.Below W.heap.size W W') := by
  letI := fcS r0 r1 x y
  have hm := memoQ_ok (callE_ok (K := KM.all W) (ctx hs) fns (primL_ok (l := [(210, insP 3), (213, ccP 251)]) ⟨insOk, ccOk, trivial⟩) 10000) (f := 92) (knLk fcT)
  have hk := memo_ok (callE_ok (K := KM.all W) (ctx hs) fns (primL_ok (l := [(92, memoQ knL), (210, insP 3), (213, ccP 251)]) ⟨hm, insOk, ccOk, trivial⟩) 10000) (f := 36) kn
  have g0 : fcGet r0 r1 x y (1000 + r0) = some (.u8, x) := by unfold fcGet; rw [Nat.beq_refl]; rfl
  have g1 : fcGet r0 r1 x y (2000 + r1) = some (.u8, y) := by
    unfold fcGet
    have : Nat.beq (2000 + r1) (1000 + r0) = false := by
      cases hb : Nat.beq (2000 + r1) (1000 + r0) with
      | false => rfl
      | true => have := Nat.eq_of_beq_eq_true hb; omega
    rw [this, Nat.beq_refl]; rfl
  exact law_D (callE_ok (ctx hs) fns (primL_ok (l := [(36, memoP (.bool true)), (210, insP 3), (213, ccP 251)]) ⟨hk, insOk, ccOk, trivial⟩) 10000) h (rs := [.int .u8 x, .int .u8 y]) (.cons (RV.symI g0) (.cons (RV.symI g1) .nil))
end Go.Proofs.YtheedjgpfpghbaaGreat
