/- RewriteTells: what becomes of a method when others stand for its instructions. Conditions: none. -/
import Derived.Test.YtgaldjnnfkdohaaRows
import Derived.Test.YtgaldjnnfkdohaaPureTellsT
import Derived.WalkKit
import Derived.ProofKit
import Derived.OpenShut
import Derived.ShutString
import Derived.ChangeOld
import Derived.Below
import Derived.SizedLaws
import Derived.Carry
namespace Go.Proofs.Ytgaldjnnfkdohaa.rewriteTells
open Go.ChangeShapes Go.WideShapes Go.ChangeAt Go.RowKit Go.Fw
open Go.ChangeMaps (open_string shut_string)
set_option linter.unusedVariables false
theorem own : ownKnob Try.prog.godebug = none := by kernel_rfl
theorem laidOut : laidOutB Try.prog = true := by kernel_rfl
set_option maxRecDepth 100000 in
theorem lifted (os : Os) (started : os.Started) (H : Type) (enc : TypeId × Value → H) :
    ReturnsInHanded {} Try.checked os 7 .any (Rows.rewriteTellsSpec.pre6 enc Try.prog Try.f7 Rows.rewriteTellsRow.domain false) (Rows.rewriteTellsSpec.post enc Try.prog Try.f7 false true false false) := by
  refine returnsInHanded_of_change_sized (C := Try.checked) own started (by kernel_rfl) Try.func7
    (ChangeSpec.witness6 (enc := enc) (C := Try.checked) false ⟨#[], #[.agg #[.string ⟨#[]⟩, .slice none 0 0, .int .i64 0, .string ⟨#[]⟩, .bool false, .bool false, .int .i64 0, .slice none 0 0, .slice none 0 0], .agg #[.int .u8 0, .int .u8 0, .int .u8 0, .int .u8 0], .slice none 0 0, .slice none 0 0, .int .u8 0, .int .u16 0], []⟩ 8 (by kernel_rfl) (by kernel_rfl) (by kernel_rfl) (by kernel_rfl)) ?_
  intro W base args ds gs before hval0 hW hcnd hsz0 _
  have hval : ∀ (j : Nat) t v, Try.f7.params[j]? = some t → args[j]? = some v → Value.okWide Try.prog W .any base t v := hval0
  have hW' := hW
  obtain ⟨p, q, hA0, hV, rfl, hfz, hnd⟩ := hW
  have hA : DataW.TrodAll enc Try.prog W 0 (fun _ => true) true Try.f7.params.toList args.toList ds p := hA0
  rw [Try.params7] at hA hval
  obtain ⟨v0, vs0, d0, ds0, p0, q0, hargs, rfl, rfl, h0, r0⟩ := trodAll_cons hA
  obtain ⟨v1, vs1, d1, ds1, p1, q1, rfl, rfl, rfl, h1, r1⟩ := trodAll_cons r0
  obtain ⟨v2, vs2, d2, ds2, p2, q2, rfl, rfl, rfl, h2, r2⟩ := trodAll_cons r1
  obtain ⟨v3, vs3, d3, ds3, p3, q3, rfl, rfl, rfl, h3, r3⟩ := trodAll_cons r2
  obtain ⟨v4, vs4, d4, ds4, p4, q4, rfl, rfl, rfl, h4, r4⟩ := trodAll_cons r3
  obtain ⟨v5, vs5, d5, ds5, p5, q5, rfl, rfl, rfl, h5, r5⟩ := trodAll_cons r4
  obtain ⟨rfl, rfl, rfl⟩ := trodAll_nil r5
  obtain rfl : args = #[v0, v1, v2, v3, v4, v5] := by cases args; simp_all
  obtain ⟨rfl, rfl⟩ := trodVars_none hV
  obtain ⟨cs0, rfl⟩ := okWide_str Try.underlying67 (hval 0 67 v0 rfl rfl)
  have k0 := h0
  have lt0 : ∀ x ∈ p0, x.block < W.heap.size := by obtain ⟨m, hm⟩ := k0; exact DataW.trod_lt m _ _ _ hm
  obtain ⟨fuel0, hf0⟩ := h0
  obtain ⟨x0, hx0, w0⟩ := GoOpen.opn (P := Try.prog) (t := 67) (α := api_Method) hf0
  obtain ⟨ga0_0, gc0_0, ga0_1, gc0_1, ga0_2, gc0_2, hc0, gs0_0, gs0_1, gs0_2⟩ := hx0
  obtain rfl : cs0 = #[.string x0.Name, .slice ga0_0 x0.Params.length gc0_0, .int .i64 x0.Ret.Kind, .string x0.Ret.Class, .bool x0.Static, .bool x0.Abstract, .int .i64 x0.Locals, .slice ga0_1 x0.Code.length gc0_1, .slice ga0_2 x0.Handlers.length gc0_2] := by apply Array.ext'; exact hc0
  obtain ⟨cs1, rfl⟩ := okWide_arr Try.underlying68 (hval 1 68 v1 rfl rfl)
  have k1 := h1
  have lt1 : ∀ x ∈ p1, x.block < W.heap.size := by obtain ⟨m, hm⟩ := k1; exact DataW.trod_lt m _ _ _ hm
  obtain ⟨fuel1, hf1⟩ := h1
  obtain ⟨x1, hx1, w1⟩ := GoOpen.opn (P := Try.prog) (t := 68) (α := Arr4_uint8) hf1
  have hc1 : cs1.toList = [.int .u8 x1.e0, .int .u8 x1.e1, .int .u8 x1.e2, .int .u8 x1.e3] := hx1
  obtain rfl : cs1 = #[.int .u8 x1.e0, .int .u8 x1.e1, .int .u8 x1.e2, .int .u8 x1.e3] := by apply Array.ext'; exact hc1
  obtain ⟨a2, len2, cap2, rfl⟩ := okWide_slice Try.underlying55 (hval 2 55 v2 rfl rfl)
  have k2 := h2
  have lt2 : ∀ x ∈ p2, x.block < W.heap.size := by obtain ⟨m, hm⟩ := k2; exact DataW.trod_lt m _ _ _ hm
  obtain ⟨fuel2, hf2⟩ := h2
  obtain ⟨aa2, cc2, x2, hcs2, s2, m2, w2⟩ := open_sl (P := Try.prog) (e := 5) (α := Int) rfl rfl rfl rfl hf2
  obtain ⟨rfl, rfl, rfl⟩ := cells_slice hcs2
  obtain ⟨a3, len3, cap3, rfl⟩ := okWide_slice Try.underlying69 (hval 3 69 v3 rfl rfl)
  have k3 := h3
  have lt3 : ∀ x ∈ p3, x.block < W.heap.size := by obtain ⟨m, hm⟩ := k3; exact DataW.trod_lt m _ _ _ hm
  obtain ⟨fuel3, hf3⟩ := h3
  obtain ⟨aa3, cc3, x3, hcs3, s3, m3, w3⟩ := open_sl (P := Try.prog) (e := 121) (α := Arr3_uint8) rfl rfl rfl rfl hf3
  obtain ⟨rfl, rfl, rfl⟩ := cells_slice hcs3
  obtain ⟨a4, rfl, rfl, rfl, w4⟩ := open_int Try.underlying5 (hval 4 5 v4 rfl rfl) h4
  obtain ⟨a5, rfl, rfl, rfl, w5⟩ := open_int Try.underlying70 (hval 5 70 v5 rfl rfl) h5
  obtain ⟨fu, hf⟩ := bonsailaw19_RewriteTells_true x0 w0 x1 w1 x2 m2 w2 x3 m3 w3 a4 w4 a5 w5
  refine (law_walk (W := W) (bonsailaw19_RewriteTells_spec hf gs0_0 gs0_1 gs0_2 s2 s3)).mono fun e W' ⟨he, bel⟩ => ?_
  subst he
  exact ⟨_, rfl, _, _, _, [], _, [], hW', trodAll_mk1 (shut_bool Try.underlying4 _), (trodAll_cons_mk (Below.trod laidOut (by kernel_rfl) (of_decide_eq_true (by kernel_rfl)) k0 bel lt0) (trodAll_cons_mk (Below.trod laidOut (by kernel_rfl) (of_decide_eq_true (by kernel_rfl)) k1 bel lt1) (trodAll_cons_mk (Below.trod laidOut (by kernel_rfl) (of_decide_eq_true (by kernel_rfl)) k2 bel lt2) (trodAll_cons_mk (Below.trod laidOut (by kernel_rfl) (of_decide_eq_true (by kernel_rfl)) k3 bel lt3) (trodAll_cons_mk (shut_int Try.underlying5 w4) (trodAll_cons_mk (shut_int Try.underlying70 w5) trodAll_mk0)))))), rfl, bel.frame _, fun h => by cases h⟩
theorem over : Rows.rewriteTellsRow.holds Try.pinned (OpenSpec.ofChange Rows.rewriteTellsSpec) :=
  OpenClaim.holds_of_wide 7 Try.f7 rfl rfl rfl rfl rfl rfl rfl ⟨rfl, rfl, rfl, rfl, rfl⟩ rfl rfl rfl rfl rfl (by kernel_rfl) Try.func7 (by kernel_rfl)
    (of_decide_eq_true (by kernel_rfl)) (by unfold Func.isWrapper; first | (rw [if_pos (by decide +kernel)]; kernel_rfl) | (rw [if_neg (by decide +kernel)]; exact ⟨rfl, rfl⟩))
    (fun os started H enc _ => lifted os started H enc)
theorem proved : Rows.RewriteTellsSaid := over
#print axioms proved
end Go.Proofs.Ytgaldjnnfkdohaa.rewriteTells
namespace Go.Proofs.Ytgaldjnnfkdohaa
/-- The row, under a short name, for the claim. -/
theorem rewriteTells_holds : Rows.RewriteTellsSaid := rewriteTells.proved
end Go.Proofs.Ytgaldjnnfkdohaa
