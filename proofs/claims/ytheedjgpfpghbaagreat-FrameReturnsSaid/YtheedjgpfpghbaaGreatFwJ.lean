/- A small logic of walks: slices held against nil. -/
import Derived.Test.YtheedjgpfpghbaaGreatFwI
import Derived.Lib.SliceRun
set_option linter.unusedVariables false
set_option linter.unusedSimpArgs false
namespace Go.Fw
open Go
section
variable {P : Program} {T : Tab} {N : Nat} {σ : Slots} {w : World} {l : List Oper} {Q : Exit → Act → World → Prop} {rest : List Oper} {g : Option (Nat × Bool)}
  {ty : TypeId} {pos : String} {af : Array Edge} {op : Op} {d : Tmp} {K : KM} {L : Chunks} {G : List Chunks} {e : TypeId} {α : Type} [GoData e α]

/-- a slice held against nil -/
theorem s_eqn [hT : TabC P T] {t t' : TypeId} {i : TI} {x y : Operand} {a : Option Addr} {n c n' c' : Nat} (ht : tk T t = some i) (hd : i.kind = .slice e)
    (hx : ev σ x = some (.slice a n c)) (hy : ev σ y = some (.slice none n' c')) (hg : gd l σ g = some true) (hdN : Nat.blt d N = true)
    (next : Rg P l Q N rest ((d, .bool a.isNone) :: σ) w) : Rg P l Q N (⟨some d, .binOp .eql t x y t', ty, pos, af, g⟩ :: rest) σ w := by
  obtain ⟨d0, hu, hk0, _⟩ := entry_spec (hT.all.get ht)
  have hd1 := kind_slice (hk0.trans hd)
  rw [hd1] at hu
  refine rg_value rfl hg hdN (fun b hb => ?_) next
  simp only [execOp, hb.ev hx, hb.ev hy, Sem.run_bind, eqGuard, Lib.run_eql_slice_nil w _ _ a n c n' c' hu]
  simp [Lib.run_eql_slice_nil w _ _ a n c n' c' hu]

theorem Sat.open1 {C0 : Chunks} (h : Sat w K (flat (flat [C0] :: G))) : Sat w K (flat (C0 :: G)) := h.open
theorem Sat.open2 {C0 C1 : Chunks} (h : Sat w K (flat (flat [C0, C1] :: G))) : Sat w K (flat (C0 :: C1 :: G)) := h.open
theorem Sat.open3 {C0 C1 C2 : Chunks} (h : Sat w K (flat (flat [C0, C1, C2] :: G))) : Sat w K (flat (C0 :: C1 :: C2 :: G)) := h.open
theorem Sat.open4 {C0 C1 C2 C3 : Chunks} (h : Sat w K (flat (flat [C0, C1, C2, C3] :: G))) : Sat w K (flat (C0 :: C1 :: C2 :: C3 :: G)) := h.open
theorem Sat.open5 {C0 C1 C2 C3 C4 : Chunks} (h : Sat w K (flat (flat [C0, C1, C2, C3, C4] :: G))) : Sat w K (flat (C0 :: C1 :: C2 :: C3 :: C4 :: G)) := h.open
theorem Sat.open6 {C0 C1 C2 C3 C4 C5 : Chunks} (h : Sat w K (flat (flat [C0, C1, C2, C3, C4, C5] :: G))) : Sat w K (flat (C0 :: C1 :: C2 :: C3 :: C4 :: C5 :: G)) := h.open
theorem Sat.open7 {C0 C1 C2 C3 C4 C5 C6 : Chunks} (h : Sat w K (flat (flat [C0, C1, C2, C3, C4, C5, C6] :: G))) : Sat w K (flat (C0 :: C1 :: C2 :: C3 :: C4 :: C5 :: C6 :: G)) := h.open
theorem Sat.open8 {C0 C1 C2 C3 C4 C5 C6 C7 : Chunks} (h : Sat w K (flat (flat [C0, C1, C2, C3, C4, C5, C6, C7] :: G))) : Sat w K (flat (C0 :: C1 :: C2 :: C3 :: C4 :: C5 :: C6 :: C7 :: G)) := h.open

/-- a load at a place that came forward, out of a row that is turned behind it -/
theorem d_ldmh [hT : TabC P T] {fuel : Nat} {listed : Array Bool} {δ : List (Nat × List Nat)} {t t' : TypeId} {x : Operand} {b jj : Nat} {l1 cs l2 : List Value} {v : Value} (i k j : Nat) (hQ : PanicOk Q) (π : List Nat) (hS : Sat w K (flat G)) (hi : nthO l i = some ⟨some d, .load t x, ty, pos, af, g⟩)
    (hx : ev σ x = some (.pointer (some ⟨b, l1.length + j, none⟩))) (hk : nthH (heldG G δ) k = some (jj, [(b, Cl (l1 ++ (cs ++ l2)) t')] ++ [])) (hj : waitsB l jj i = true) (hv : ldv T t cs j = some v) (hg : gd l σ g = some true) (hok : okTake l listed i = true) (hd : Nat.blt d N = true) (hn : noKey (heldG G δ) i = true)
    (next : Dg P l Q N K (flat (selG G π)) (heldG G δ) fuel (listed.setIfInBounds i true) ((d, v) :: σ) w) : Dg P l Q N K (flat (selG G π)) (heldG G δ) (fuel + 1) listed σ w :=
  d_ldh i k hQ π hS hi hx hk hj (ld_mid hv) hg hok hd hn next

/-- what stands behind a region, shown once -/
theorem s_cut1 {x : Code} (pre : Slots → World → Prop) (hx : ∀ J : Act → World → Prop, (∀ τ w', pre τ w' → At N τ fun a => J a w') → At N σ fun a => x.wp P (Exit.then J Q) a w)
    (hy : ∀ τ w', pre τ w' → At N τ fun a => Q .normal a w') : At N σ fun a => x.wp P Q a w := by
  have h := hx (fun a w => Q .normal a w) hy
  have e : Exit.then (fun a w => Q .normal a w) Q = Q := by funext e a w; cases e <;> rfl
  rw [e] at h
  exact h

theorem SlK.none_nil {cap : Nat} {xs : List α} (h : SlK e K none cap xs) : xs = [] := by
  rcases h.2 with h | ⟨_, _, _, h, _⟩
  · exact h
  · cases h

/-! ### rows that are lent to a call -/

/-- a row was lent from K to K2: whatever comes behind, it may be taken back -/
def Thaw (K K2 : KM) (C : Chunks) : Prop :=
  ∀ K' (w : World) (G : List Chunks), KM.le K2 K' → Sat w K' (flat G) → ∃ K'', KM.le K K'' ∧ Sat w K'' (flat (C :: G))

theorem OwnS.lend {a : Option Addr} {n cap : Nat} {xs : List α} {C : Chunks} (h : OwnS e K (.slice a n cap) xs C) (hS : Sat w K (flat (C :: G))) :
    ∃ K2, KM.le K K2 ∧ SlK e K2 a cap xs ∧ Sat w K2 (flat G) ∧ Thaw K K2 C := by
  obtain ⟨cl, ho, hc⟩ := h
  rcases ho with ⟨hv, hn, rfl, rfl⟩ | ⟨b, cap', r, hv, rfl, hnc, hm, hxl, hcs⟩
  · have : xs = [] := List.eq_nil_of_length_eq_zero hn
    subst this
    cases hv
    exact ⟨K, .refl K, SlK.nil, hS, fun K' w G hk hS' => ⟨K', hk, hS'⟩⟩
  · cases hv
    refine ⟨K.with (b, Cl (cl ++ r) e), Sat.leG hS, ?_, Sat.freezeG hS, ?_⟩
    · refine ⟨hnc, .inr ⟨b, 0, cl, rfl, hc.mono (Sat.leG hS), (cl ++ r).toArray, e, (0, 0), KM.with_self K (b, _), fun j v hj => ?_⟩⟩
      rw [nth_eq] at hj
      have hlt : j < cl.length := (List.getElem?_eq_some_iff.1 hj).1
      simp [List.getElem?_append_left hlt, hj]
    · have hb : K.at_ b = none := hS.apart (b, _) (List.mem_cons_self ..)
      intro K' w' G' hk hS'
      have hkb := hk.at_ b _ (KM.with_self K (b, Cl (cl ++ r) e))
      refine ⟨{ K' with at_ := fun k => if k = b then none else K'.at_ k }, ⟨fun k x hx => ?_, hk.os, hk.tape, hk.output⟩, ?_⟩
      · have hne : k ≠ b := fun e' => by subst e'; rw [hb] at hx; cases hx
        simp only [hne, if_false]
        refine hk.at_ k x ?_
        simp [KM.with, hne, hx]
      · refine ⟨fun k x hx => ?_, fun p hp => ?_, fun p hp => ?_, ?_, hS'.os, hS'.tape, hS'.output⟩
        · simp only at hx; split at hx
          · cases hx
          · exact hS'.kept k x hx
        · rcases List.mem_cons.1 (show p ∈ (b, Cl (cl ++ r) e) :: flat G' from hp) with rfl | hp
          · exact hS'.kept b _ hkb
          · exact hS'.owned p hp
        · simp only; split
          · rfl
          · rename_i hne
            rcases List.mem_cons.1 (show p ∈ (b, Cl (cl ++ r) e) :: flat G' from hp) with rfl | hp
            · exact absurd rfl hne
            · exact hS'.apart p hp
        · show ((b, Cl (cl ++ r) e) :: flat G' |>.map (·.1)).Nodup
          rw [List.map_cons, List.nodup_cons]
          refine ⟨fun hm => ?_, hS'.nodup⟩
          obtain ⟨q, hq, e'⟩ := List.mem_map.1 hm
          have := hS'.apart q hq
          rw [show q.1 = b from e'] at this
          rw [this] at hkb; cases hkb

theorem OwnS.norm {a : Option Addr} {n cap : Nat} {xs : List α} {C : Chunks} (h : OwnS e K (.slice a n cap) xs C) : OwnS e K (.slice a xs.length cap) xs C := by
  have e1 := h.len
  subst e1; exact h

/-- data that point nowhere -/
class GoFlat (e : TypeId) (α : Type) [GoData e α] : Prop where
  any : ∀ {K K' : KM} {x : α} {cs : List Value}, GoData.cells e K x cs → GoData.cells e K' x cs

theorem Cat.any [hF : GoFlat e α] {K' : KM} : ∀ {xs : List α} {l : List Value}, Cat e K xs l → Cat e K' xs l := by
  intro xs
  induction xs with
  | nil => intro l h; exact h
  | cons x r ih =>
    rintro l ⟨c, m, rfl, h1, h2⟩
    exact ⟨c, m, rfl, hF.any h1, ih h2⟩

theorem OwnS.any [hF : GoFlat e α] {K' : KM} {v : Value} {xs : List α} {C : Chunks} (h : OwnS e K v xs C) : OwnS e K' v xs C := by
  obtain ⟨l, h1, h2⟩ := h
  exact ⟨l, h1, h2.any⟩


/-- a law's walk, out of its contract -/
theorem law_walk {P : Program} {f : FuncId} {args : List Value} {W : World} {r : Bool} (h : Sp P f args (KM.all W) [] (fun _ _ v => v = .bool r)) :
    Calls P f args.toArray W (fun e W' => e = .returned (.bool r) ∧ Go.RowKit.Below W.heap.size W W') := by
  refine (h W [] (Sat.all W)).mono fun e W' he => ?_
  cases e with
  | returned v =>
    obtain ⟨K', C, hk, hv, hS⟩ := he
    exact ⟨by rw [hv], hS.below hk⟩
  | panicked _ => exact he.elim
  | outgrown => exact he.elim

end
end Go.Fw
