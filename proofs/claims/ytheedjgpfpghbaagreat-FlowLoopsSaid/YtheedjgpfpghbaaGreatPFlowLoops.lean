/- The statement's inputs by their cases, each run by the evaluator. -/
import Derived.Test.YtheedjgpfpghbaaGreatDS
import Derived.IntWalk
import Derived.DataShut
set_option linter.unusedVariables false
namespace Go.Proofs.YtheedjgpfpghbaaGreat
open Go Go.Fw Go.Ev

def fcBin (r0 r1 r2 : Nat) (o : BinOp) (i : Nat) (k : IntKind) (b : Int) : Option Value := match o, i, k, b with
  | .rem, 0, .u8, .ofNat 6 => some (.int .u8 (.ofNat r0))
  | .rem, 1, .u8, .ofNat 6 => some (.int .u8 (.ofNat r1))
  | .rem, 2, .u8, .ofNat 3 => some (.int .u8 (.ofNat r2))
  | _, _, _, _ => none
@[reducible] def fcT (r0 r1 r2 : Nat) : SymT := ⟨fcBin r0 r1 r2, fun _ _ _ _ => none, fun _ _ => none⟩

noncomputable def fcE (T : SymT) : Bool :=
  isTrue (@callD T tyT.get eqT.get zeT.get fnT.get (fun g => bif Nat.beq g 31 then some (memoP (.bool true)) else bif Nat.beq g 210 then some (insP 3) else none) 10000 7 [.chan (some 0), .chan (some 1), .chan (some 2)] M0)
noncomputable def knE (T : SymT) : Bool := isTrue (@callD T tyT.get eqT.get zeT.get fnT.get (fun g => bif Nat.beq g 210 then some (insP 3) else none) 10000 31 [] M0)

theorem kn (r0 r1 r2 : Nat) : knE (fcT r0 r1 r2) = true := by kernel_rfl

/-- the inputs' numbers -/
def fcGet (x y z : Int) (i : Nat) : Option (IntKind × Int) := match i with
  | 0 => some (.u8, x)
  | 1 => some (.u8, y)
  | 2 => some (.u8, z)
  | _ => none
@[reducible] def fcS (x y z : Int) (T : SymT) : Sym := { toSymT := T, get := fcGet x y z }

theorem rem_nn {k : IntKind} {x : Int} (c : Nat) (h : 0 ≤ x) : intOp .rem k x (.ofNat (c + 1)) = some (.int k (x % ((c + 1 : Nat) : Int))) := by
  have e : intOp .rem k x (.ofNat (c + 1)) = some (.int k (x.tmod ((c + 1 : Nat) : Int))) := rfl
  rw [e, Int.tmod_eq_emod_of_nonneg h]

theorem fc_ok {x y z : Int} {r0 r1 r2 : Nat} (hx : 0 ≤ x ∧ x ≤ 255) (hy : 0 ≤ y ∧ y ≤ 255) (hz0 : 0 ≤ z ∧ z ≤ 255) (h0 : x % 6 = (r0 : Int)) (h1 : y % 6 = (r1 : Int)) (h2 : z % 3 = (r2 : Int)) : @SymOk (fcS x y z (fcT r0 r1 r2)) := by
  letI := fcS x y z (fcT r0 r1 r2)
  refine ⟨fun o' i k b v h k0 u hz => ?_, fun o' i k b v h k0 u hz => ?_, fun i k v h k0 u hz ρ => ?_⟩
  · have h : fcBin r0 r1 r2 o' i k b = some v := h
    have hz : fcGet x y z i = some (k0, u) := hz
    unfold fcBin at h
    split at h
    · cases h; cases hz
      exact ⟨rfl, _, rem_nn 5 hx.1, fun ρ => by rw [show (((5 + 1 : Nat) : Int)) = 6 from rfl, h0]; exact .plain rfl⟩
    · cases h; cases hz
      exact ⟨rfl, _, rem_nn 5 hy.1, fun ρ => by rw [show (((5 + 1 : Nat) : Int)) = 6 from rfl, h1]; exact .plain rfl⟩
    · cases h; cases hz
      exact ⟨rfl, _, rem_nn 2 hz0.1, fun ρ => by rw [show (((2 + 1 : Nat) : Int)) = 3 from rfl, h2]; exact .plain rfl⟩
    · cases h
  · cases h
  · cases h

theorem fc_calls {x y z : Int} {r0 r1 r2 : Nat} {W : World} (hs : @SymOk (fcS x y z (fcT r0 r1 r2))) (h : fcE (fcT r0 r1 r2) = true) :
    Calls Tryz.prog 7 #[.int .u8 x, .int .u8 y, .int .u8 z] W (fun e W' => e = .returned (.bool true) ∧ Go.RowKit.Below W.heap.size W W') := by
  letI := fcS x y z (fcT r0 r1 r2)
  have hk := memo_ok (callD_ok (K := KM.all W) (ctx hs) fns (primsOne insOk) 10000) (f := 31) (kn r0 r1 r2)
  exact law_D (callD_ok (ctx hs) fns (primsTwo hk insOk) 10000) h (rs := [.int .u8 x, .int .u8 y, .int .u8 z]) (.cons (RV.symI rfl) (.cons (RV.symI rfl) (.cons (RV.symI rfl) .nil)))
end Go.Proofs.YtheedjgpfpghbaaGreat
