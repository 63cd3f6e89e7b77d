/- The statement's inputs by their cases, each run by the evaluator. -/
import Derived.Test.YtheedjgpfpghbaaGreatDS
import Derived.IntWalk
import Derived.DataShut
set_option linter.unusedVariables false
namespace Go.Proofs.YtheedjgpfpghbaaGreat
open Go Go.Fw Go.Ev

def fcBin (r0 r1 n1 : Nat) (o : BinOp) (i : Nat) (k : IntKind) (b : Int) : Option Value := match o, i, k, b with
  | .rem, 0, .u8, .ofNat 5 => some (.int .u8 (.ofNat r0))
  | .rem, 2, .i64, .ofNat c => bif Nat.beq c n1 then some (.int .i64 (.ofNat r1)) else none
  | _, _, _, _ => none
def fcConv (i : Nat) (k : IntKind) : Option Value := match i, k with
  | 1, .i64 => some (.chan (some 2))
  | _, _ => none
@[reducible] def fcT (r0 r1 n1 : Nat) : SymT := ⟨fcBin r0 r1 n1, fun _ _ _ _ => none, fcConv⟩

noncomputable def fcE (T : SymT) : Bool :=
  isTrue (@callD T tyT.get eqT.get zeT.get fnT.get (fun g => bif Nat.beq g 31 then some (memoP (.bool true)) else bif Nat.beq g 210 then some (insP 3) else none) 10000 9 [.chan (some 0), .chan (some 1)] M0)
noncomputable def knE (T : SymT) : Bool := isTrue (@callD T tyT.get eqT.get zeT.get fnT.get (fun g => bif Nat.beq g 210 then some (insP 3) else none) 10000 31 [] M0)

theorem kn (r0 r1 n1 : Nat) : knE (fcT r0 r1 n1) = true := by kernel_rfl

/-- the inputs' numbers -/
def fcGet (x y : Int) (i : Nat) : Option (IntKind × Int) := match i with
  | 0 => some (.u8, x)
  | 1 => some (.u8, y)
  | 2 => some (.i64, y)
  | _ => none
@[reducible] def fcS (x y : Int) (T : SymT) : Sym := { toSymT := T, get := fcGet x y }

theorem rem_nn {k : IntKind} {x : Int} (c : Nat) (h : 0 ≤ x) : intOp .rem k x (.ofNat (c + 1)) = some (.int k (x % ((c + 1 : Nat) : Int))) := by
  have e : intOp .rem k x (.ofNat (c + 1)) = some (.int k (x.tmod ((c + 1 : Nat) : Int))) := rfl
  rw [e, Int.tmod_eq_emod_of_nonneg h]

theorem fc_ok {x y : Int} {r0 r1 n1 : Nat} (hx : 0 ≤ x ∧ x ≤ 255) (hy : 0 ≤ y ∧ y ≤ 255) (h0 : x % 5 = (r0 : Int)) (h1 : y % ((n1 + 1 : Nat) : Int) = (r1 : Int)) : @SymOk (fcS x y (fcT r0 r1 (n1 + 1))) := by
  letI := fcS x y (fcT r0 r1 (n1 + 1))
  refine ⟨fun o' i k b v h k0 z hz => ?_, fun o' i k b v h k0 z hz => ?_, fun i k v h k0 z hz ρ => ?_⟩
  · have h : fcBin r0 r1 (n1 + 1) o' i k b = some v := h
    have hz : fcGet x y i = some (k0, z) := hz
    unfold fcBin at h
    split at h
    · cases h; cases hz
      exact ⟨rfl, _, rem_nn 4 hx.1, fun ρ => by rw [show (((4 + 1 : Nat) : Int)) = 5 from rfl, h0]; exact .plain rfl⟩
    · rename_i c q1 q2
      cases hb : Nat.beq c (n1 + 1) with
      | false => rw [hb] at h; cases h
      | true =>
        rw [hb] at h
        have := Nat.eq_of_beq_eq_true hb
        subst this
        cases h; cases hz
        exact ⟨rfl, _, rem_nn n1 hy.1, fun ρ => by rw [h1]; exact .plain rfl⟩
    · cases h
  · cases h
  · have h : fcConv i k = some v := h
    have hz : fcGet x y i = some (k0, z) := hz
    unfold fcConv at h
    split at h
    · cases h; cases hz
      rw [IntWalk.i64_in _ (by omega)]; exact .sym rfl
    · cases h

theorem fc_calls {x y : Int} {r0 r1 n1 : Nat} {W : World} (hs : @SymOk (fcS x y (fcT r0 r1 n1))) (h : fcE (fcT r0 r1 n1) = true) :
    Calls Tryz.prog 9 #[.int .u8 x, .int .u8 y] W (fun e W' => e = .returned (.bool true) ∧ Go.RowKit.Below W.heap.size W W') := by
  letI := fcS x y (fcT r0 r1 n1)
  have hk := memo_ok (callD_ok (K := KM.all W) (ctx hs) fns (primsOne insOk) 10000) (f := 31) (kn r0 r1 n1)
  exact law_D (callD_ok (ctx hs) fns (primsTwo hk insOk) 10000) h (rs := [.int .u8 x, .int .u8 y]) (.cons (RV.symI rfl) (.cons (RV.symI rfl) .nil))

end Go.Proofs.YtheedjgpfpghbaaGreat
