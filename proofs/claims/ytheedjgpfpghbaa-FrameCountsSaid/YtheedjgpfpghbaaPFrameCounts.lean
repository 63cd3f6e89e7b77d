/- The statement's inputs by their cases, each run by the evaluator. -/
import Derived.Test.YtheedjgpfpghbaaDT
import Derived.IntWalk
set_option linter.unusedVariables false
namespace Go.Proofs.Ytheedjgpfpghbaa
open Go Go.Fw Go.Ev

def fcBin (r0 : Int) (v1 : Value) (r2 : Int) (v3 : Value) (o : BinOp) (i : Nat) (k : IntKind) (b : Int) : Option Value := match o, i, k, b with
  | .rem, 3, .i64, .ofNat 14 => some (.int .i64 r0)
  | .rem, 1, .u8, .ofNat 3 => some v1
  | .quo, 1, .u8, .ofNat 3 => some (.chan (some 4))
  | .rem, 4, .u8, .ofNat 2 => some (.int .u8 r2)
  | .rem, 2, .u8, .ofNat 4 => some v3
  | _, _, _, _ => none
def fcBinl (o : BinOp) (k : IntKind) (b : Int) (i : Nat) : Option Value := match o, k, b, i with
  | .sub, .i64, .ofNat 100, 6 => some (.chan (some 7))
  | _, _, _, _ => none
def fcConv (i : Nat) (k : IntKind) : Option Value := match i, k with
  | 0, .i64 => some (.chan (some 3))
  | 5, .i64 => some (.chan (some 6))
  | 8, .i64 => some (.chan (some 9))
  | _, _ => none
@[reducible] def fcT (r0 : Int) (v1 : Value) (r2 : Int) (v3 : Value) : SymT := ⟨fcBin r0 v1 r2 v3, fcBinl, fcConv⟩

noncomputable def fcE (T : SymT) : Bool :=
  isTrue (@callD T tyT.get eqT.get zeT.get fnT.get (fun g => bif Nat.beq g 4 then some (memoP (.bool true)) else none) 10000 3 [.chan (some 0), .chan (some 1), .chan (some 2)] M0)
noncomputable def knE (T : SymT) : Bool := isTrue (@callD T tyT.get eqT.get zeT.get fnT.get (fun _ => none) 10000 4 [] M0)

theorem kn (r0 : Int) (v1 : Value) (r2 : Int) (v3 : Value) : knE (fcT r0 v1 r2 v3) = true := by kernel_rfl

/-- the inputs' numbers -/
def fcGet (o n d : Int) (i : Nat) : Option (IntKind × Int) := match i with
  | 0 => some (.u8, o)
  | 1 => some (.u8, n)
  | 2 => some (.u8, d)
  | 3 => some (.i64, o)
  | 4 => some (.u8, n / 3)
  | 5 => some (.u8, n % 3)
  | 6 => some (.i64, n % 3)
  | 7 => some (.i64, 100 - n % 3)
  | 8 => some (.u8, d % 4)
  | 9 => some (.i64, d % 4)
  | _ => none
@[reducible] def fcS (o n d : Int) (T : SymT) : Sym := { toSymT := T, get := fcGet o n d }

theorem rem_nn {k : IntKind} {x : Int} (c : Nat) (h : 0 ≤ x) : intOp .rem k x (.ofNat (c + 1)) = some (.int k (x % ((c + 1 : Nat) : Int))) := by
  have e : intOp .rem k x (.ofNat (c + 1)) = some (.int k (x.tmod ((c + 1 : Nat) : Int))) := rfl
  rw [e, Int.tmod_eq_emod_of_nonneg h]
theorem quo_nn {x : Int} (c : Nat) (h : 0 ≤ x ∧ x ≤ 255) : intOp .quo .u8 x (.ofNat (c + 1)) = some (.int .u8 (x / ((c + 1 : Nat) : Int))) := by
  have e : intOp .quo .u8 x (.ofNat (c + 1)) = some (.int .u8 (IntKind.u8.wrap (x.tdiv ((c + 1 : Nat) : Int)))) := rfl
  rw [e, Int.tdiv_eq_ediv_of_nonneg h.1, IntWalk.u8_in _ ⟨Int.ediv_nonneg h.1 (by omega), Int.le_trans (Int.ediv_le_self _ h.1) h.2⟩]

theorem fc_ok {o n d r0 r2 : Int} {v1 v3 : Value} (ho : 0 ≤ o ∧ o ≤ 255) (hn : 0 ≤ n ∧ n ≤ 255) (hd : 0 ≤ d ∧ d ≤ 255) (h0 : o % 14 = r0) (h2 : n / 3 % 2 = r2) (h1 : v1 = .int .u8 (n % 3) ∨ v1 = .chan (some 5)) (h3 : v3 = .int .u8 (d % 4) ∨ v3 = .chan (some 8)) :
    @SymOk (fcS o n d (fcT r0 v1 r2 v3)) := by
  letI := fcS o n d (fcT r0 v1 r2 v3)
  have n5 : ∀ ρ : Rho, RS ρ v1 (.int .u8 (n % 3)) := fun ρ => by rcases h1 with rfl | rfl; exact .plain rfl; exact .sym rfl
  have n8 : ∀ ρ : Rho, RS ρ v3 (.int .u8 (d % 4)) := fun ρ => by rcases h3 with rfl | rfl; exact .plain rfl; exact .sym rfl
  refine ⟨fun o' i k b v h k0 x hx => ?_, fun o' i k b v h k0 x hx => ?_, fun i k v h k0 x hx ρ => ?_⟩
  · have h : fcBin r0 v1 r2 v3 o' i k b = some v := h
    have hx : fcGet o n d i = some (k0, x) := hx
    unfold fcBin at h
    split at h
    · cases h; cases hx
      exact ⟨rfl, _, rem_nn 13 ho.1, fun ρ => by rw [← h0]; exact .plain rfl⟩
    · cases h; cases hx
      exact ⟨rfl, _, rem_nn 2 hn.1, n5⟩
    · cases h; cases hx
      exact ⟨rfl, _, quo_nn 2 hn, fun ρ => .sym rfl⟩
    · cases h; cases hx
      exact ⟨rfl, _, rem_nn 1 (Int.ediv_nonneg hn.1 (by omega)), fun ρ => by rw [← h2]; exact .plain rfl⟩
    · cases h; cases hx
      exact ⟨rfl, _, rem_nn 3 hd.1, n8⟩
    · cases h
  · have h : fcBinl o' k b i = some v := h
    have hx : fcGet o n d i = some (k0, x) := hx
    unfold fcBinl at h
    split at h
    · cases h; cases hx
      refine ⟨rfl, .int .i64 (100 - n % 3), ?_, fun ρ => .sym rfl⟩
      have e : intOp .sub .i64 (.ofNat 100) (n % 3) = some (.int .i64 (IntKind.i64.wrap (100 - n % 3))) := rfl
      rw [e, IntWalk.i64_in _ (by omega)]
    · cases h
  · have h : fcConv i k = some v := h
    have hx : fcGet o n d i = some (k0, x) := hx
    unfold fcConv at h
    split at h
    · cases h; cases hx
      rw [IntWalk.i64_in _ (by omega)]; exact .sym rfl
    · cases h; cases hx
      rw [IntWalk.i64_in _ (by omega)]; exact .sym rfl
    · cases h; cases hx
      rw [IntWalk.i64_in _ (by omega)]; exact .sym rfl
    · cases h

theorem fc_calls {o n d r0 r2 : Int} {v1 v3 : Value} {W : World} (hs : @SymOk (fcS o n d (fcT r0 v1 r2 v3))) (h : fcE (fcT r0 v1 r2 v3) = true) :
    Calls Try.prog 3 #[.int .u8 o, .int .u8 n, .int .u8 d] W (fun e W' => e = .returned (.bool true) ∧ Go.RowKit.Below W.heap.size W W') := by
  letI := fcS o n d (fcT r0 v1 r2 v3)
  have hk := memo_ok (callD_ok (K := KM.all W) (prims := fun _ => none) (ctx hs) fns primsNone 10000) (f := 4) (kn r0 v1 r2 v3)
  exact law_D (callD_ok (ctx hs) fns (primsOne hk) 10000) h (rs := [.int .u8 o, .int .u8 n, .int .u8 d]) (.cons (RV.symI rfl) (.cons (RV.symI rfl) (.cons (RV.symI rfl) .nil)))
end Go.Proofs.Ytheedjgpfpghbaa
