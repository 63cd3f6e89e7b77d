/- Four bytes as they are handed in. -/
import Derived.Test.YtheedjgpfpghbaaGreatPArcT
import Derived.Test.YtheedjgpfpghbaaGreatFwL
import Derived.IntWalk
import Derived.DataShut
set_option linter.unusedVariables false
namespace Go.Proofs.YtheedjgpfpghbaaGreat
open Go Go.Fw Go.Ev
structure Arr4_uint8 where
  e0 : Int
  e1 : Int
  e2 : Int
  e3 : Int
instance : GoData 5 Int := ⟨1, fun _ x cs => cs = [.int .u8 x], by rintro K x cs rfl; rfl, fun _ h => h, by rintro K x cs rfl; rfl⟩
instance : GoOpen Tryz.prog 5 Int := ⟨fun n => (Lit.int .u8 n).wf = true, fun h => open_int' rfl rfl h⟩
instance : GoData 22 Arr4_uint8 := ⟨4, fun _ x cs => cs = [.int .u8 x.e0, .int .u8 x.e1, .int .u8 x.e2, .int .u8 x.e3], by rintro K x cs rfl; rfl, fun _ h => h, by rintro K x cs rfl; rfl⟩
instance : GoOpen Tryz.prog 22 Arr4_uint8 := ⟨fun x => GoOpen.wf Tryz.prog 5 x.e0 ∧ GoOpen.wf Tryz.prog 5 x.e1 ∧ GoOpen.wf Tryz.prog 5 x.e2 ∧ GoOpen.wf Tryz.prog 5 x.e3, fun {H enc w sp hd fuel cs z} h => by
  obtain ⟨hl, he⟩ := open_arr (e := 5) (α := Int) (n := 4) rfl rfl rfl h
  match cs, hl with
  | [x0, x1, x2, x3], _ =>
    obtain ⟨y0, h0, w0⟩ := he 0 (by decide)
    replace h0 : [x0] = [Value.int .u8 y0] := h0
    cases h0
    obtain ⟨y1, h1, w1⟩ := he 1 (by decide)
    replace h1 : [x1] = [Value.int .u8 y1] := h1
    cases h1
    obtain ⟨y2, h2, w2⟩ := he 2 (by decide)
    replace h2 : [x2] = [Value.int .u8 y2] := h2
    cases h2
    obtain ⟨y3, h3, w3⟩ := he 3 (by decide)
    replace h3 : [x3] = [Value.int .u8 y3] := h3
    cases h3
    exact ⟨⟨y0, y1, y2, y3⟩, rfl, w0, w1, w2, w3⟩⟩
theorem u8_wf {x : Int} (h : (Lit.int .u8 x).wf = true) : 0 ≤ x ∧ x ≤ 255 := (Lit.wf_int_iff .u8 x).1 h
theorem ar100 : ∀ x, x < 256 → arA 100 x = true := fun x _ => rfl
/-- a byte is in one of a set's parts -/
theorem arIn {js : List Nat} (h : parts arA 100 js = true) {x : Int} (hx : (Lit.int .u8 x).wf = true) : ∃ j ∈ js, RelA arA j (.int .u8 x) := inPart h ar100 (u8_wf hx)
theorem arV {i : Nat} {u : Value} (h : RelA arA i u) : @RV arS ρ0 (.chan (some i)) u := @RV.symI arS _ _ h h.plain
theorem arPq : parts arA 100 [130, 131] = true := by kernel_rfl
theorem arPr : parts arA 100 [110, 111] = true := by kernel_rfl
/-- the four bytes of an archive -/
theorem arK {k : Arr4_uint8} (h : GoOpen.wf Tryz.prog 22 k) : ∃ q ∈ [130, 131], ∃ r ∈ [110, 111], @RV arS ρ0 (.agg ⟨[.chan (some q), .chan (some 14), .chan (some r), .chan (some 100)]⟩) (.agg #[.int .u8 k.e0, .int .u8 k.e1, .int .u8 k.e2, .int .u8 k.e3]) := by
  obtain ⟨w0, w1, w2, w3⟩ := h
  obtain ⟨q, hq, a0⟩ := arIn arPq w0
  obtain ⟨r, hr, a2⟩ := arIn arPr w2
  have hx := u8_wf w3
  obtain ⟨n, hn⟩ := Int.eq_ofNat_of_zero_le hx.1
  letI := arS
  refine ⟨q, hq, r, hr, .c (.agg (l := [_, _, _, _]) (.cons (.sym a0 rfl) (.cons (.sym (RelA.i (k := .u8)) rfl) (.cons (.sym a2 rfl) (.cons (.sym ?_ rfl) .nil)))))⟩
  rw [hn]
  exact RelA.u (Nat.le_refl _) (by omega) rfl
noncomputable def arMs : List Memo := [arM00, arM01, arM10, arM11]
noncomputable def trMs : List Memo := [trM00, trM01, trM10, trM11]
theorem arMsOk {W : World} : ∀ m ∈ arMs, m.ord = true ∧ @MemoOk arS Tryz.prog (KM.all W) 14 m := by
  intro m hm
  simp only [arMs, List.mem_cons, List.not_mem_nil, or_false] at hm
  rcases hm with rfl | rfl | rfl | rfl
  · exact arOk00
  · exact arOk01
  · exact arOk10
  · exact arOk11
theorem trMsOk {W : World} : ∀ m ∈ trMs, m.ord = true ∧ @MemoOk arS Tryz.prog (KM.all W) 15 m := by
  intro m hm
  simp only [trMs, List.mem_cons, List.not_mem_nil, or_false] at hm
  rcases hm with rfl | rfl | rfl | rfl
  · exact trOk00
  · exact trOk01
  · exact trOk10
  · exact trOk11
noncomputable def arPrims : List (Nat × (List Value → Mem → Option (Value × Mem))) := [(14, memoR noD arMs), (15, memoR noD trMs)]
theorem arPrimsOk {W : World} : AllL (fun f p => @CallOk arS Tryz.prog (KM.all W) (fun g args M => if g = f then p args M else none)) arPrims := by
  letI := arS
  exact ⟨memoR_ok arMsOk noD_ok, memoR_ok trMsOk noD_ok, trivial⟩
end Go.Proofs.YtheedjgpfpghbaaGreat
