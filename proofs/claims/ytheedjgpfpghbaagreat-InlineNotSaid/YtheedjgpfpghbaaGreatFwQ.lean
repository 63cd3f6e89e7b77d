/- A small logic of walks: rows that rise; cells of rows. -/
import Derived.Test.YtheedjgpfpghbaaGreatFwP
import Derived.Laws.Append
set_option linter.unusedVariables false
set_option linter.unusedSimpArgs false
set_option linter.unusedSectionVars false
namespace Go.Fw
open Go
variable {α : Type} [Scal α] [DecidableEq α]

theorem cellsR {w : World} {K : KM} {b : Nat} {t : TypeId} {pre post : List Value} {xs : List α} {L : Chunks} (hS : Sat w K ((b, Cl (pre ++ (xs.map Scal.enc ++ post)) t) :: L)) :
    ∀ j v, (xs.map (Scal.enc : α → Value))[j]? = some v → w.cell? ⟨b, pre.length + j, none⟩ = some v := by
  intro j v hj
  have := cells_of_heap (hS.owned _ (List.mem_cons_self ..)) (pre.length + j) v (by
    rw [nth_eq, List.getElem?_append_right (by omega), show pre.length + j - pre.length = j by omega]
    have hlt := (List.getElem?_eq_some_iff.1 hj).1
    rw [List.getElem?_append_left hlt]; exact hj)
  simpa using this

theorem cellsA {w : World} {K : KM} {b : Nat} {cs : List Value} {t : TypeId} {L : Chunks} (hS : Sat w K ((b, Cl cs t) :: L)) {j : Nat} (hj : j < cs.length) : (w.cell? ⟨b, j, none⟩).isSome = true ∧ w.frozen? ⟨b, j, none⟩ = false := by
  have ho := hS.owned _ (List.mem_cons_self ..)
  have := cells_of_heap ho j cs[j] (by rw [nth_eq]; simp [hj])
  refine ⟨by rw [show (⟨b, j, none⟩ : Addr) = ⟨b, 0 + j, none⟩ by simp, this]; rfl, ?_⟩
  simp only [World.frozen?, show w.heap[b]? = some (Cl cs t) from ho]
  simp

theorem frozenA {w : World} {K : KM} {b : Nat} {cs : List Value} {t : TypeId} {L : Chunks} (hS : Sat w K ((b, Cl cs t) :: L)) (j : Nat) : w.frozen? ⟨b, j, none⟩ = false := by
  have ho := hS.owned _ (List.mem_cons_self ..)
  simp only [World.frozen?, show w.heap[b]? = some (Cl cs t) from ho]
  simp

theorem shapeA {w : World} {K : KM} {b : Nat} {cs : List Value} {t : TypeId} {L : Chunks} (hS : Sat w K ((b, Cl cs t) :: L)) : w.shape? b = some (t, cs.length) := by
  have ho := hS.owned _ (List.mem_cons_self ..)
  simp only [World.shape?, show w.heap[b]? = some (Cl cs t) from ho]
  simp

theorem oneM (xs : List α) : ∀ v ∈ xs.map (Scal.enc : α → Value), v.oneCell' = true := fun v hv => by
  obtain ⟨x, _, rfl⟩ := List.mem_map.1 hv; exact Scal.one x

theorem grownCap_in {w : World} {need old : Nat} {e : TypeId} (h : need ≤ maxLen) : need ≤ grownCap w need old e ∧ grownCap w need old e ≤ maxLen := by
  unfold grownCap Question.cut maxLen at *
  have := Nat.mod_lt (w.tape w.drawn (.appendCap need old e)) (show 0 < 2 ^ 63 - need by omega)
  simp only
  omega

theorem shiftL (U D post : List Value) (x : Value) (h : 0 < post.length) (p : Nat) (hp : U.length = p) :
    let A := U ++ (D ++ post)
    let B := A.take (p + 1) ++ (D ++ A.drop (p + 1 + D.length))
    B.take p ++ ([x] ++ B.drop (p + [x].length)) = U ++ (x :: D ++ post.drop 1) := by
  intro A B
  have hA : A.take (p + 1) = U ++ (D ++ post).take 1 := by
    show (U ++ (D ++ post)).take (p + 1) = _
    rw [List.take_append, List.take_of_length_le (by omega)]; congr 2; omega
  have hA2 : A.drop (p + 1 + D.length) = post.drop 1 := by
    show (U ++ (D ++ post)).drop (p + 1 + D.length) = _
    rw [List.drop_append, List.drop_of_length_le (by omega), List.nil_append, List.drop_append, List.drop_of_length_le (by omega), List.nil_append]; congr 1; omega
  have hone : ((D ++ post).take 1).length = 1 := by simp; omega
  obtain ⟨y, hy⟩ : ∃ y, (D ++ post).take 1 = [y] := by
    match h : (D ++ post).take 1, hone with
    | [y], _ => exact ⟨y, rfl⟩
  have hB : B = U ++ (y :: (D ++ post.drop 1)) := by
    show A.take (p + 1) ++ (D ++ A.drop (p + 1 + D.length)) = _
    rw [hA, hA2, hy]; simp
  rw [hB, ← hp]
  simp

theorem count_at {xs : List α} (hr : rising xs) (x : α) : ∀ t (h : t < xs.length), Scal.lt xs[t] x = true ↔ t < xs.countP (fun y => Scal.lt y x) := by
  induction xs with
  | nil => intro t h; cases h
  | cons y r ih =>
    obtain ⟨h1, h2⟩ := List.pairwise_cons.1 hr
    intro t h
    cases hy : Scal.lt y x with
    | true =>
      rw [List.countP_cons_of_pos (by exact hy)]
      cases t with
      | zero => simp [hy]
      | succ t =>
        have := ih h2 t (by simpa using h)
        simp only [List.getElem_cons_succ, this]; omega
    | false =>
      have hall : ∀ z ∈ y :: r, Scal.lt z x = false := fun z hz => by
        rcases List.mem_cons.1 hz with rfl | hz
        · exact hy
        · cases hzx : Scal.lt z x with
          | false => rfl
          | true => have := Scal.tra y z x (h1 z hz) hzx; rw [hy] at this; cases this
      have h0 : (y :: r).countP (fun y => Scal.lt y x) = 0 := List.countP_eq_zero.2 (fun z hz => by rw [hall z hz]; simp)
      rw [h0, hall _ (List.getElem_mem h)]; simp

theorem mem_at {xs : List α} (hr : rising xs) (x : α) : x ∈ xs ↔ xs[xs.countP (fun y => Scal.lt y x)]? = some x := by
  constructor
  · intro hx
    obtain ⟨j, hj, he⟩ := List.getElem_of_mem hx
    have h1 : ¬ j < xs.countP (fun y => Scal.lt y x) := fun h => by
      have := (count_at hr x j hj).2 h
      rw [he, Scal.irr] at this; cases this
    have h2 : ¬ xs.countP (fun y => Scal.lt y x) < j := fun h => by
      have hlt : xs.countP (fun y => Scal.lt y x) < xs.length := by omega
      have h3 := List.pairwise_iff_getElem.1 hr _ j hlt hj h
      rw [he] at h3
      have := (count_at hr x _ hlt).1 h3
      omega
    obtain rfl : j = xs.countP (fun y => Scal.lt y x) := by omega
    rw [List.getElem?_eq_getElem hj, he]
  · intro h; exact List.mem_of_getElem? h

theorem growL (U D z1 z2 : List Value) (x : Value) (i : Nat) (hU : U.length = i) (hz : z1.length = D.length + 1) :
    let A := U ++ (z1 ++ z2)
    let B := A.take i ++ ([x] ++ A.drop (i + [x].length))
    B.take (i + 1) ++ (D ++ B.drop (i + 1 + D.length)) = U ++ (x :: D ++ z2) := by
  intro A B
  subst hU
  have hB : B = (U ++ [x]) ++ ((z1 ++ z2).drop 1) := by
    show A.take U.length ++ ([x] ++ A.drop (U.length + 1)) = _
    have h1 : A.take U.length = U := by show (U ++ (z1 ++ z2)).take U.length = U; simp
    have h2 : A.drop (U.length + 1) = (z1 ++ z2).drop 1 := by
      show (U ++ (z1 ++ z2)).drop (U.length + 1) = _
      rw [List.drop_append, List.drop_of_length_le (by omega), List.nil_append]; congr 1; omega
    rw [h1, h2]; simp
  have hl : (U ++ [x]).length = U.length + 1 := by simp
  rw [hB, ← hl, List.take_left, List.drop_append, List.drop_of_length_le (by omega), List.nil_append, List.drop_drop, show (1 + ((U ++ [x]).length + D.length - (U ++ [x]).length)) = z1.length by omega, List.drop_left]
  simp

theorem ins_split {xs : List α} {i : Nat} {x : α} (hi : i ≤ xs.length) : xs.insertIdx i x = xs.take i ++ x :: xs.drop i := by
  induction xs generalizing i with
  | nil => obtain rfl : i = 0 := by simpa using hi
           rfl
  | cons y r ih => cases i with
    | zero => rfl
    | succ i => simp [List.insertIdx_succ_cons, ih (i := i) (by simpa using hi)]


/-- a new row, as work's row -/
theorem TodoR.fresh {e : TypeId} {b c : Nat} {xs : List α} {cells : List Value} (z : List Value) (h : cells = xs.map Scal.enc ++ z) (hne : cells ≠ []) (hz : xs.length + z.length = c) (hc : c ≤ maxLen) : TodoR e (.slice (some ⟨b, 0, none⟩) xs.length c) xs [(b, Cl cells e)] := by
  subst h
  exact ⟨_, c, rfl, by omega, hc, .inr ⟨b, [], z, rfl, by simp, by omega, by simpa using hne⟩⟩

theorem rising_ins {xs : List α} (hr : rising xs) {x : α} (hx : x ∉ xs) : rising (xs.insertIdx (xs.countP (fun y => Scal.lt y x)) x) := by
  have hk : xs.countP (fun y => Scal.lt y x) ≤ xs.length := List.countP_le_length
  rw [ins_split hk]
  have hr' := hr
  unfold rising at hr' ⊢
  rw [← List.take_append_drop (xs.countP (fun y => Scal.lt y x)) xs, List.pairwise_append] at hr'
  obtain ⟨h1, h2, h3⟩ := hr'
  have hb : ∀ y ∈ xs.take (xs.countP (fun y => Scal.lt y x)), Scal.lt y x = true := fun y hy => by
    obtain ⟨j, hj, he⟩ := List.getElem_of_mem hy
    rw [List.getElem_take] at he
    simp only [List.length_take] at hj
    rw [← he]; exact (count_at hr x j (by omega)).2 (by omega)
  have ha : ∀ y ∈ xs.drop (xs.countP (fun y => Scal.lt y x)), Scal.lt x y = true := fun y hy => by
    obtain ⟨j, hj, he⟩ := List.getElem_of_mem hy
    rw [List.getElem_drop] at he
    simp only [List.length_drop] at hj
    cases hc : Scal.lt x y with
    | true => rfl
    | false =>
      cases hd : Scal.lt y x with
      | true =>
        rw [← he] at hd
        have := (count_at hr x _ (by omega)).1 hd
        omega
      | false => exact absurd (Scal.tot y x hd hc ▸ List.mem_of_mem_drop hy) hx
  rw [List.pairwise_append, List.pairwise_cons]
  refine ⟨h1, ⟨ha, h2⟩, fun y hy z hz => ?_⟩
  rcases List.mem_cons.1 hz with rfl | hz
  · exact hb y hy
  · exact h3 y hy z hz

theorem swo_scal : Go.Sort.SWO (Scal.lt : α → α → Bool) where
  irrefl := Scal.irr
  trans := Scal.tra
  ntrans x y z h1 h2 := by
    cases h3 : Scal.lt x z with
    | false => rfl
    | true =>
      cases h4 : Scal.lt y x with
      | true => have := Scal.tra y x z h4 h3; rw [h2] at this; cases this
      | false => have := Scal.tot x y h1 h4; subst this; rw [h3] at h2; cases h2

/-- rising -/
def srt (s : List α) : List α := s.mergeSort (fun x y => !(Scal.lt y x))

theorem srt_perm (s : List α) : (srt s).Perm s := List.mergeSort_perm ..
theorem srt_sorted (s : List α) : (srt s).Pairwise (fun x y => Scal.lt y x = false) := by
  have := List.pairwise_mergeSort (le := fun x y : α => !(Scal.lt y x)) (fun a b c h1 h2 => by
    simp only [Bool.not_eq_true'] at *
    cases hca : Scal.lt c a with
    | false => rfl
    | true =>
      cases hab : Scal.lt a b with
      | true => have := Scal.tra c a b hca hab; rw [h2] at this; cases this
      | false => have := Scal.tot a b hab h1; subst this; rw [h2] at hca; cases hca) (fun a b => by
    cases hba : Scal.lt b a with
    | false => simp
    | true =>
      cases hab : Scal.lt a b with
      | false => simp
      | true => have := Scal.tra a b a hab hba; rw [Scal.irr] at this; cases this) s
  exact this.imp (fun h => by simpa using h)
theorem srt_eq {s t : List α} (h : s.Perm t) : srt s = srt t := by
  refine List.Perm.eq_of_pairwise (le := fun x y : α => Scal.lt y x = false) (fun a b _ _ h1 h2 => Scal.tot a b h2 h1) (srt_sorted s) (srt_sorted t) ?_
  exact (srt_perm s).trans (h.trans (srt_perm t).symm)
theorem srt_rising {s : List α} (h : s.Nodup) : rising (srt s) := by
  have h1 := srt_sorted s
  have h2 : (srt s).Nodup := (srt_perm s).nodup_iff.2 h
  unfold rising
  refine (h1.and h2).imp (fun {x y} ⟨h3, h4⟩ => ?_)
  cases hxy : Scal.lt x y with
  | true => rfl
  | false => exact absurd (Scal.tot x y hxy h3) h4

section
variable {P : Program} {T : Tab} {N : Nat} {σ : Slots} {w : World} {l : List Oper} {Q : Exit → Act → World → Prop} {rest : List Oper} {g : Option (Nat × Bool)}
  {ty : TypeId} {pos : String} {af : Array Edge} {op : Op} {d : Tmp} {K : KM} {L : Chunks} {G : List Chunks} {fuel : Nat} {listed : Array Bool} {δ : List (Nat × List Nat)}

/-- the place of a slice's first element, in a region that draws its order -/
theorem d_ix0 [hT : TabC P T] {t e : TypeId} {i : TI} {x y : Operand} {b o n c : Nat} (m : Nat) (hQ : PanicOk Q) (π : List Nat) (hS : Sat w K (flat G)) (h0 : 0 < n) (ht : tk T t = some i) (hd : i.kind = .slice e) (hi : nthO l m = some ⟨some d, .indexAddr t x y, ty, pos, af, g⟩)
    (hx : ev σ x = some (.slice (some ⟨b, o, none⟩) n c)) (hy : ev σ y = some (.int .i64 0)) (hg : gd l σ g = some true) (hok : okTake l listed m = true) (hdN : Nat.blt d N = true) (hnk : noKey (heldG G δ) m = true)
    (next : Dg P l Q N K (flat (selG G π)) (heldG G δ) fuel (listed.setIfInBounds m true) ((d, .pointer (some ⟨b, o + 0, none⟩)) :: σ) w) : Dg P l Q N K (flat (selG G π)) (heldG G δ) (fuel + 1) listed σ w :=
  d_take m hQ hi rfl hok hdN hnk (hS.hold π (heldG_mem δ G) _) (fun a' ha => .inl ⟨gd_sound hg ha, fun w1 _ => by
    simp only [execOp, ha.ev hx, ha.ev hy, Sem.run_bind]
    rw [ix_run ht hd (Int.le_refl 0) (by omega)]
    simp [Addr.add]⟩) next

/-- a slice without its first element -/
theorem d_sl1 [hT : TabC P T] {t e : TypeId} {i : TI} {x y : Operand} {b o n c : Nat} (m : Nat) (hQ : PanicOk Q) (π : List Nat) (hS : Sat w K (flat G)) (h0 : 0 < n) (hn : n ≤ c) (ht : tk T t = some i) (hd : i.kind = .slice e) (hsz : i.esize = 1) (hi : nthO l m = some ⟨some d, .slice t x (some y) none none, ty, pos, af, g⟩)
    (hx : ev σ x = some (.slice (some ⟨b, o, none⟩) n c)) (hy : ev σ y = some (.int .i64 1)) (hg : gd l σ g = some true) (hok : okTake l listed m = true) (hdN : Nat.blt d N = true) (hnk : noKey (heldG G δ) m = true)
    (next : Dg P l Q N K (flat (selG G π)) (heldG G δ) fuel (listed.setIfInBounds m true) ((d, .slice (some ⟨b, if c = 1 then o else o + 1, none⟩) (n - 1) (c - 1)) :: σ) w) : Dg P l Q N K (flat (selG G π)) (heldG G δ) (fuel + 1) listed σ w :=
  d_take m hQ hi rfl hok hdN hnk (hS.hold π (heldG_mem δ G) _) (fun a' ha => .inl ⟨gd_sound hg ha, fun w1 _ => by
    obtain ⟨d0, hu, hk0, _, _, _, he⟩ := entry_spec (hT.all.get ht)
    have hd1 := kind_slice (hk0.trans hd)
    rw [hd1] at hu
    obtain ⟨⟨j, hj, hjs, hjb, z, hz, hzz⟩, _⟩ := he e (by rw [hd]; rfl)
    have hj1 : j.size = 1 := by rw [hjs, hsz]
    have h1 : (1 : Int) ≤ (n : Int) := by omega
    by_cases hc : c = 1
    · simp [execOp, ha.ev hx, ha.ev hy, Instr.sliceAt, Instr.slice, underlying_run hu, Instr.sliceBounds, Instr.sliceBound, asIntOf, sizeOf, typeInfo, hj, hj1, h1, hc]
    · simp [execOp, ha.ev hx, ha.ev hy, Instr.sliceAt, Instr.slice, underlying_run hu, Instr.sliceBounds, Instr.sliceBound, asIntOf, sizeOf, typeInfo, hj, hj1, h1, hc, Addr.add]⟩) next
end

end Go.Fw
