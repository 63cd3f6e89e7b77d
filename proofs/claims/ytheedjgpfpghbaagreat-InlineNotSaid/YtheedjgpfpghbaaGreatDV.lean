/- A deterministic evaluator: strings.Builder's copyCheck, by the shelf's contract. -/
import Derived.Test.YtheedjgpfpghbaaGreatDR
import Derived.Shelf.Strings.Builder1
set_option linter.unusedVariables false
set_option linter.unusedSectionVars false
set_option linter.unusedSimpArgs false
namespace Go.Ev
open Go Go.Fw

noncomputable def ccP (B : TypeId) : List Value → Mem → Option (Value × Mem)
  | [.pointer (some ⟨b, o, none⟩)], M => match M.m.get b with
    | some (.cells cs t false) => bif (Nat.beq o 0 && Nat.beq t B) && (Nat.beq cs.length 2 && Nat.blt M.nx 1000000) then match cs with
        | .pointer none :: r => some (.tuple #[], M.set b (.cells (.pointer (some ⟨b, 0, none⟩) :: r) t false))
        | .pointer (some ⟨b2, 0, none⟩) :: r => bif Nat.beq b2 b then some (.tuple #[], M) else none
        | _ => none
      else none
    | _ => none
  | _, _ => none

variable [Sym]
section
variable {P : Program} {T : Tab} {ρ ρ' : Rho} {a : Act} {w : World} {K : KM} {L : Chunks} {M M' : Mem} {v : Value} {F B : Nat} {r : Go.Shelf.Ren}

theorem ccP_ok (Ly : Go.Proofs.Lays.n240 P r) (X : Go.Proofs.Builder.X72 P r) (hF : r.f 240 = F) (hB : r.t 72 = B) (hcall : ∀ (args : Array Value) (w : World), (callFunc F args).run P w = .ok (.enter F args) w) : CallOk P K (fun g args M => if g = F then ccP B args M else none) := by
  intro g args M v M' h ρ L w rs hrs hW
  by_cases hg : g = F
  case neg => simp only [if_neg hg] at h; cases h
  subst hg
  refine ⟨hcall _ _, ?_⟩
  have h : ccP B args M = some (v, M') := by simpa using h
  unfold ccP at h
  split at h
  case h_2 => cases h
  rename_i b o hh
  cases hrs with | cons hx hrs => cases hrs with | nil =>
  obtain ⟨b', s, n, hρ, rfl⟩ := hx.ptr
  split at h
  case h_2 => cases h
  rename_i cs t hb
  cases hq : ((Nat.beq o 0 && Nat.beq t B) && (Nat.beq cs.length 2 && Nat.blt M.nx 1000000)) with
  | false => rw [hq] at h; cases h
  | true =>
  rw [hq] at h
  simp only [cond_true] at h
  simp only [Bool.and_eq_true] at hq
  obtain ⟨⟨hq1, hq2⟩, hq3, hq4⟩ := hq
  have hq1 := Nat.eq_of_beq_eq_true hq1
  subst hq1
  have hq2 := Nat.eq_of_beq_eq_true hq2
  have hq3 := Nat.eq_of_beq_eq_true hq3
  have hlim : M.nx < 1000000 := by simpa using hq4
  have hW0 := hW
  obtain ⟨ids, C, hM, hw⟩ := hW
  obtain ⟨pb, Cb, idb, hpb, hbb, hrb⟩ := hM.pull hb
  cases hbb with
  | @cells _ cs' pre post _ _ b2 tot hρ2 hc htot hopn =>
  obtain ⟨rfl, rfl⟩ := hopn rfl
  have hρ0 := hρ2
  rw [hρ] at hρ2; cases hρ2
  have hs : Sat w K ((b', Cl cs' t) :: (Cb ++ L)) := by simpa using hw.perm (hpb.append_right L)
  have hcl := hc.len
  have hcell : ∀ x, cs'[0]? = some x → w.cell? ⟨b', 0, none⟩ = some x := fun x hx => by
    have := cells_of_heap (hs.owned _ (List.mem_cons_self ..)) 0 x (by rw [nth_eq]; exact hx)
    simpa using this
  have hsh : w.shape? b' = some (t, 2) := by have := shapeA hs; rw [← hcl, hq3] at this; exact this
  split at h
  · rename_i rr q1
    cases hc with | @cons _ x' _ rr' hx0 hrr =>
    have ex : x' = .pointer none := by cases hx0; rfl
    subst ex
    cases h
    have hcc := Go.Proofs.Any.Builder_copyCheck_fresh (P := P) Ly X b' w (hcell _ rfl) (by rw [hB, ← hq2]; exact hsh) (frozenA hs 0)
    rw [hF] at hcc
    refine (show Calls P g _ _ _ from hcc).mono fun e w' ⟨he, hw'⟩ => ?_
    subst he hw'
    have hS' := Sat.setCell (off := 0) hs (.pointer (some ⟨b', 0, none⟩))
    have e9 : ((Value.pointer none :: rr').toArray.setIfInBounds 0 (.pointer (some ⟨b', 0, none⟩))) = (Value.pointer (some ⟨b', 0, none⟩) :: rr').toArray := by apply Array.ext'; simp
    rw [e9] at hS'
    have hblk : BlkR ρ b (.cells (.pointer (some ⟨b, 0, none⟩) :: rr) t false) (b', Cl ([] ++ ((Value.pointer (some ⟨b', 0, none⟩) :: rr') ++ [])) t) :=
      .cells (pre := []) (post := []) hρ0 (.cons (RS.ptr (s := 0) (o := 0) hρ) hrr) (by simpa using htot) (fun _ => ⟨rfl, rfl⟩)
    refine ⟨ρ, .same (Nat.le_refl _), .tup .nil, _, _, hrb.set hlim (fun _ _ h => h) hM.low hblk, ?_⟩
    simpa using hS'
  · rename_i b3 rr q1
    cases hb3 : Nat.beq b3 b with
    | false => rw [hb3] at h; cases h
    | true =>
      rw [hb3] at h
      have hb3 := Nat.eq_of_beq_eq_true hb3
      subst hb3
      cases h
      cases hc with | @cons _ x' _ rr' hx0 hrr =>
      have ex : x' = .pointer (some ⟨b', 0, none⟩) := by
        cases hx0 with
        | plain h => cases h
        | ptr h => rw [hρ] at h; cases h; rfl
      subst ex
      have hcc := Go.Proofs.Any.Builder_copyCheck_used (P := P) Ly X b' w (hcell _ rfl)
      rw [hF] at hcc
      refine (show Calls P g _ _ _ from hcc).mono fun e w' ⟨he, hw'⟩ => ?_
      subst he hw'
      exact ⟨ρ, .same (Nat.le_refl _), .tup .nil, hW0⟩
  · cases h
end
end Go.Ev
