/- Rows of int that rise: the library's search and insertion, in this logic's words. -/
import Derived.Test.YtdgpckcphkpclaaSaI
import Derived.Test.YtdgpckcphkpclaaSl
import Derived.Test.YtdgpckcphkpclaaFwQ
import Derived.Shelf.Slices.SearchI
import Derived.Shelf.Slices.Empties
import Derived.Shelf.Spec.SearchS
import Derived.Shelf.Spec.SlicesInsertGrow
set_option linter.unusedVariables false
set_option linter.unusedSimpArgs false
set_option maxHeartbeats 0
set_option maxRecDepth 100000
namespace Go.Proofs.Ytdgpckcphkpclaa
open Go Go.Fw

theorem todo_search_int {K : KM} {v : Value} {xs : List Int} {C : Chunks} (x : Int) (h : TodoR 3 v xs C) (hr : rising xs) (hlen : xs.length < 4611686018427387904) :
    Sp Try.prog 37 [v, Value.int .i64 x] K (flat [C]) (fun K' C' r => r = .tuple #[.int .i64 ((xs.countP (fun y => Scal.lt y x) : Nat) : Int), .bool (decide (x ∈ xs))] ∧ TodoR 3 v xs C') := by
  intro w L hS
  have hh := h
  obtain ⟨a, c, rfl, hc1, hc2, h⟩ := h
  by_cases h0 : xs = []
  · subst h0
    have := Any.slices_BinarySearch_int_empty (P := Try.prog) Try.bsI a c x w
    refine (show Calls Try.prog 37 _ _ _ from this).mono fun e w' ⟨he, hw⟩ => ?_
    subst he hw
    exact ⟨K, C, KM.le.refl K, ⟨rfl, hh⟩, hS.open1⟩
  · rcases h with ⟨rfl, rfl, rfl⟩ | ⟨b, pre, post, rfl, rfl, hc3, hne⟩
    · exact absurd (List.eq_nil_of_length_eq_zero (by omega)) h0
    · have hS' : Sat w K ((b, Cl (pre ++ (xs.map Scal.enc ++ post)) 3) :: flat [L]) := hS.open
      have hcell := cellsR hS'
      have := Any.slices_BinarySearch_int (P := Try.prog) Try.bsI b pre.length xs.length c xs x w (Nat.le_refl _) hlen (fun j hj => by
        have h1 : (xs.map (Scal.enc : Int → Value))[j]? = some (.int .i64 (xs.getD j 0)) := by
          rw [List.getElem?_map, List.getElem?_eq_getElem hj, List.getD_eq_getElem?_getD, List.getElem?_eq_getElem hj]; rfl
        exact hcell j _ h1) (by
        rw [List.take_length]
        exact hr.imp (fun {a b} hab => by have : a < b := by simpa [Scal.lt] using hab
                                          omega))
      refine (show Calls Try.prog 37 _ _ _ from this).mono fun e w' ⟨he, q, hw⟩ => ?_
      subst he hw
      refine ⟨K, _, KM.le.refl K, ⟨?_, _, _, rfl, hc1, hc2, .inr ⟨b, pre, post, rfl, rfl, hc3, hne⟩⟩, (hS.drewN q).open1⟩
      rw [List.take_length]
      simp [Scal.lt]

theorem ren_int : Try.insI_ren.t 3 = 3 := by kernel_rfl

theorem todo_insert_int {K : KM} {v : Value} {xs : List Int} {C : Chunks} (x : Int) (i vb : Nat) (h : TodoR 3 v xs C) (hi : i ≤ xs.length) (hb : (xs.length + 1) * 8 ≤ 140737488355328) :
    Sp Try.prog 38 [v, .int .i64 (i : Int), .slice (some ⟨vb, 0, none⟩) 1 1] K (flat [C, [(vb, Cl [Value.int .i64 x] 3)]]) (fun K' C' r => TodoR 3 r (xs.insertIdx i x) C') := by
  intro w L hS
  obtain ⟨a, c, rfl, hc1, hc2, h⟩ := h
  have hm : xs.length + 1 ≤ maxLen := by unfold maxLen; omega
  have hvs : ∀ {w : World} {L : Chunks}, Sat w K ((vb, Cl [Value.int .i64 x] 3) :: L) → ∀ j v, [(Value.int .i64 x : Value)][j]? = some v → w.cell? ⟨vb, 0 + j, none⟩ = some v := fun hS j v hj => by
    have := cells_of_heap (hS.owned _ (List.mem_cons_self ..)) j v (by rw [nth_eq]; exact hj)
    simpa using this
  have h1v : ∀ v ∈ [(Value.int .i64 x : Value)], v.oneCell' = true := fun v hv => by simp at hv; subst hv; rfl
  have hlen : (xs.insertIdx i x).length = xs.length + 1 := by rw [List.length_insertIdx]; simp [hi]
  have henc : (xs.insertIdx i x).map Scal.enc = (xs.map Scal.enc).take i ++ (Value.int .i64 x :: (xs.map Scal.enc).drop i) := by
    rw [ins_split hi]; simp; rfl
  have hz : ∀ n, (Builtin.zeroCells (Value.cells (.int .i64 0)) n).toList.length = n := fun n => by simp [Builtin.zeroCells, Value.cells]
  rcases h with ⟨rfl, rfl, rfl⟩ | ⟨b, pre, post, rfl, rfl, hc3, hne⟩
  · have hx : xs = [] := List.eq_nil_of_length_eq_zero (by omega)
    subst hx
    obtain rfl : i = 0 := by simpa using hi
    have hS' : Sat w K ((vb, Cl [Value.int .i64 x] 3) :: flat [L]) := hS.open
    have := Any2.slices_Insert_int_end_grow (P := Try.prog) Try.insI none 0 0 vb 0 1 1 [] [Value.int .i64 x] w (by omega) (by omega) (by omega) hb rfl rfl (fun _ => rfl) (fun a ha => by cases ha) (hvs hS') h1v
    rw [ren_int] at this
    refine (show Calls Try.prog 38 _ _ _ from this).mono fun e w' ⟨he, hw⟩ => ?_
    subst he hw
    obtain ⟨hg1, hg2⟩ := grownCap_in (w := w) (need := 1) (old := 0) (e := 3) (by unfold maxLen; omega)
    have h2 := (hS'.drop.drew'.alloc (.cells ((([] ++ [Value.int .i64 x]) : List Value).toArray ++ Builtin.zeroCells (Value.cells (.int .i64 0)) (grownCap w (0 + 1) 0 3 - (0 + 1))) 3))
    have e1 : (.cells ((([] ++ [Value.int .i64 x]) : List Value).toArray ++ Builtin.zeroCells (Value.cells (.int .i64 0)) (grownCap w (0 + 1) 0 3 - (0 + 1))) 3 : Obj) = Cl ([x].map Scal.enc ++ (Builtin.zeroCells (Value.cells (.int .i64 0)) (grownCap w (0 + 1) 0 3 - (0 + 1))).toList) 3 := by
      congr 1
      apply Array.ext'; simp; rfl
    rw [e1] at h2
    show ∃ K' C, KM.le K K' ∧ _ ∧ Sat (w.drew.alloc _) K' _
    rw [e1]
    refine ⟨K, _, KM.le.refl K, TodoR.fresh (xs := [x]) (Builtin.zeroCells (Value.cells (.int .i64 0)) (grownCap w (0 + 1) 0 3 - (0 + 1))).toList rfl (by simp) (by rw [hz]; simp; omega) hg2, h2⟩
  · have hS0 : Sat w K ((b, Cl (pre ++ (xs.map Scal.enc ++ post)) 3) :: (vb, Cl [Value.int .i64 x] 3) :: flat [L]) := hS.open
    have hS1 : Sat w K ((vb, Cl [Value.int .i64 x] 3) :: (b, Cl (pre ++ (xs.map Scal.enc ++ post)) 3) :: flat [L]) := hS0.perm (List.Perm.swap ..)
    have hcell := cellsR hS0
    have hvb : vb ≠ b := fun e => (List.nodup_cons.1 hS1.nodup).1 (by rw [e]; simp)
    have hml : (xs.map (Scal.enc : Int → Value)).length = xs.length := by simp
    by_cases hroom : xs.length + 1 ≤ c
    · have hpost : 0 < post.length := by omega
      by_cases hend : i = xs.length
      · subst hend
        have := Any2.slices_Insert_int_end_room (P := Try.prog) Try.insI b pre.length xs.length c vb 0 1 1 [Value.int .i64 x] w (by omega) hroom hc2 rfl
          (fun j hj => (cellsA hS0 (by simp; omega)).1) (fun j hj => frozenA hS0 _) (hvs hS1) h1v
        refine (show Calls Try.prog 38 _ _ _ from this).mono fun e w' ⟨he, hw⟩ => ?_
        subst he hw
        have h2 := Sat.setCells [Value.int .i64 x] (pre.length + xs.length) _ w hS0 (by simp; omega)
        have e1 : (pre ++ (xs.map Scal.enc ++ post)).take (pre.length + xs.length) ++ ([Value.int .i64 x] ++ (pre ++ (xs.map Scal.enc ++ post)).drop (pre.length + xs.length + [Value.int .i64 x].length)) = pre ++ ((xs.insertIdx xs.length x).map Scal.enc ++ post.drop 1) := by
          rw [henc]
          simp only [List.take_append, List.drop_append, hml, List.take_of_length_le (show pre.length ≤ pre.length + xs.length by omega), show pre.length + xs.length - pre.length = xs.length by omega, List.take_of_length_le (show (xs.map (Scal.enc : Int → Value)).length ≤ xs.length by simp), List.length_singleton, Nat.sub_self, List.take_zero, List.append_nil,
            List.drop_of_length_le (show pre.length ≤ pre.length + xs.length + 1 by omega), show pre.length + xs.length + 1 - pre.length = xs.length + 1 by omega, List.drop_of_length_le (show (xs.map (Scal.enc : Int → Value)).length ≤ xs.length + 1 by simp), show xs.length + 1 - xs.length = 1 by omega, List.drop_of_length_le (show (xs.map (Scal.enc : Int → Value)).length ≤ xs.length by simp)]
          simp
        rw [e1] at h2
        refine ⟨K, [(b, Cl (pre ++ ((xs.insertIdx xs.length x).map Scal.enc ++ post.drop 1)) 3)], KM.le.refl K, ⟨_, c, by rw [hlen], by omega, hc2, .inr ⟨b, pre, post.drop 1, rfl, rfl, by simp [hlen]; omega, by intro h0; have := congrArg List.length h0; simp [hlen] at this⟩⟩, ?_⟩
        exact h2.sub (R := [(vb, Cl [Value.int .i64 x] 3)]) (by show List.Perm _ ((_ :: flat [L]) ++ _); exact (List.Perm.cons _ (List.perm_append_comm (l₁ := [_]))))
      · have hlt : i < xs.length := by omega
        have := Any2.slices_Insert_int_shift (P := Try.prog) Try.insI b pre.length xs.length c i vb 0 1 1 (xs.map Scal.enc) [Value.int .i64 x] w hlt (by omega) hroom hc2 hvb hml rfl hcell
          (fun j hj => (cellsA hS0 (by simp; omega)).1) (fun j hj => frozenA hS0 _) (hvs hS1) (oneM xs) h1v 3 3 1 _ (shapeA hS1) (shapeA hS0) (by rw [List.length_append, List.length_append, List.length_map]; omega) (frozenA hS1 _) (frozenA hS1 _)
        refine (show Calls Try.prog 38 _ _ _ from this).mono fun e w' ⟨he, hw⟩ => ?_
        subst he hw
        have h2 := Sat.setCells ((xs.map Scal.enc).drop i) (pre.length + (i + 1)) _ w.drew hS0.drew' (by simp; omega)
        have h3 := Sat.setCells [Value.int .i64 x] (pre.length + i) _ _ h2 (by simp; omega)
        have e0 : pre ++ (xs.map Scal.enc ++ post) = (pre ++ (xs.map (Scal.enc : Int → Value)).take i) ++ ((xs.map Scal.enc).drop i ++ post) := by
          rw [List.append_assoc, ← List.append_assoc (List.take i _), List.take_append_drop]
        have e1 := shiftL (pre ++ (xs.map (Scal.enc : Int → Value)).take i) ((xs.map Scal.enc).drop i) post (Value.int .i64 x) hpost (pre.length + i) (by simp; omega)
        simp only [← e0] at e1
        rw [show pre.length + (i + 1) = pre.length + i + 1 by omega] at h3
        rw [e1] at h3
        have e2 : pre ++ (xs.map (Scal.enc : Int → Value)).take i ++ (Value.int .i64 x :: (xs.map Scal.enc).drop i ++ post.drop 1) = pre ++ ((xs.insertIdx i x).map Scal.enc ++ post.drop 1) := by
          rw [henc]; simp only [List.append_assoc, List.cons_append]
        rw [e2] at h3
        refine ⟨K, [(b, Cl (pre ++ ((xs.insertIdx i x).map Scal.enc ++ post.drop 1)) 3)], KM.le.refl K, ⟨_, c, by rw [hlen], by omega, hc2, .inr ⟨b, pre, post.drop 1, rfl, rfl, by simp [hlen]; omega, by intro h0; have := congrArg List.length h0; simp [hlen] at this⟩⟩, ?_⟩
        exact h3.sub (R := [(vb, Cl [Value.int .i64 x] 3)]) (by show List.Perm _ ((_ :: flat [L]) ++ _); exact (List.Perm.cons _ (List.perm_append_comm (l₁ := [_]))))
    · obtain ⟨hg1, hg2⟩ := grownCap_in (w := w) (need := xs.length + 1) (old := c) (e := 3) hm
      by_cases hend : i = xs.length
      · subst hend
        have := ren_int ▸ Any2.slices_Insert_int_end_grow (P := Try.prog) Try.insI (some ⟨b, pre.length, none⟩) xs.length c vb 0 1 1 (xs.map Scal.enc) [Value.int .i64 x] w (by omega) hc1 (by omega) hb hml rfl (fun h => by cases h)
          (fun a ha j v hj => by cases ha; rw [Go.Fw.add_addr]; exact hcell j v hj) (hvs hS1) h1v
        refine (show Calls Try.prog 38 _ _ _ from this).mono fun e w' ⟨he, hw⟩ => ?_
        subst he hw
        have h2 := (hS0.drop.drop.drew'.alloc (.cells ((xs.map Scal.enc ++ [Value.int .i64 x]).toArray ++ Builtin.zeroCells (Value.cells (.int .i64 0)) (grownCap w (xs.length + 1) c 3 - (xs.length + 1))) 3))
        have e1 : (.cells ((xs.map Scal.enc ++ [Value.int .i64 x]).toArray ++ Builtin.zeroCells (Value.cells (.int .i64 0)) (grownCap w (xs.length + 1) c 3 - (xs.length + 1))) 3 : Obj) = Cl ((xs.insertIdx xs.length x).map Scal.enc ++ (Builtin.zeroCells (Value.cells (.int .i64 0)) (grownCap w (xs.length + 1) c 3 - (xs.length + 1))).toList) 3 := by
          rw [henc, List.take_of_length_le (by simp), List.drop_of_length_le (by simp)]
          congr 1
          apply Array.ext'; simp
        rw [e1] at h2
        show ∃ K' C, KM.le K K' ∧ _ ∧ Sat (w.drew.alloc _) K' _
        rw [e1]
        refine ⟨K, [(w.heap.size, Cl ((xs.insertIdx xs.length x).map Scal.enc ++ (Builtin.zeroCells (Value.cells (.int .i64 0)) (grownCap w (xs.length + 1) c 3 - (xs.length + 1))).toList) 3)], KM.le.refl K, ?_, h2⟩
        have := TodoR.fresh (e := 3) (b := w.heap.size) (c := grownCap w (xs.length + 1) c 3) (xs := xs.insertIdx xs.length x) (Builtin.zeroCells (Value.cells (.int .i64 0)) (grownCap w (xs.length + 1) c 3 - (xs.length + 1))).toList rfl (by intro h0; have := congrArg List.length h0; simp [hlen] at this) (by rw [hz, hlen]; omega) hg2
        rw [hlen] at this
        exact this
      · have hlt : i < xs.length := by omega
        have := ren_int ▸ Any2.slices_Insert_int_grow (P := Try.prog) Try.insI b pre.length xs.length c i vb 0 1 1 (xs.map Scal.enc) [Value.int .i64 x] w hlt (by omega) hc1 (by omega) hb hml rfl hcell (hvs hS1) (oneM xs) h1v
        refine (show Calls Try.prog 38 _ _ _ from this).mono fun e w' ⟨he, hw⟩ => ?_
        subst he hw
        have h2 := hS0.drop.drop.alloc (.cells (((xs.map Scal.enc).take i).toArray ++ Builtin.zeroCells (Value.cells (.int .i64 0)) (xs.length + 1 - i) ++ Builtin.zeroCells (Value.cells (.int .i64 0)) (grownCap w (xs.length + 1) c 3 - (xs.length + 1))) 3)
        have e1 : (.cells (((xs.map Scal.enc).take i).toArray ++ Builtin.zeroCells (Value.cells (.int .i64 0)) (xs.length + 1 - i) ++ Builtin.zeroCells (Value.cells (.int .i64 0)) (grownCap w (xs.length + 1) c 3 - (xs.length + 1))) 3 : Obj) = Cl ((xs.map (Scal.enc : Int → Value)).take i ++ ((Builtin.zeroCells (Value.cells (.int .i64 0)) (xs.length + 1 - i)).toList ++ (Builtin.zeroCells (Value.cells (.int .i64 0)) (grownCap w (xs.length + 1) c 3 - (xs.length + 1))).toList)) 3 := by
          congr 1
          apply Array.ext'; simp
        rw [e1] at h2
        show ∃ K' C, KM.le K K' ∧ _ ∧ Sat (((w.alloc _).drew.setCells _ _ _).drew.setCells _ _ _) K' _
        rw [e1]
        have hz1 := hz (xs.length + 1 - i)
        have hz2 := hz (grownCap w (xs.length + 1) c 3 - (xs.length + 1))
        generalize (Builtin.zeroCells (Value.cells (.int .i64 0)) (xs.length + 1 - i)).toList = z1 at h2 hz1 ⊢
        generalize (Builtin.zeroCells (Value.cells (.int .i64 0)) (grownCap w (xs.length + 1) c 3 - (xs.length + 1))).toList = z2 at h2 hz2 ⊢
        have h3 := Sat.setCells [Value.int .i64 x] i _ _ h2.drew' (by simp; omega)
        have h4 := Sat.setCells ((xs.map Scal.enc).drop i) (i + 1) _ _ h3.drew' (by simp; omega)
        have e2 := growL ((xs.map (Scal.enc : Int → Value)).take i) ((xs.map Scal.enc).drop i) z1 z2 (Value.int .i64 x) i (by simp; omega) (by simp; omega)
        rw [e2] at h4
        have e3 : (xs.map (Scal.enc : Int → Value)).take i ++ (Value.int .i64 x :: (xs.map Scal.enc).drop i ++ z2) = (xs.insertIdx i x).map Scal.enc ++ z2 := by rw [henc]; simp
        rw [e3] at h4
        refine ⟨K, [(w.heap.size, Cl ((xs.insertIdx i x).map Scal.enc ++ z2) 3)], KM.le.refl K, ?_, h4⟩
        have := TodoR.fresh (e := 3) (b := w.heap.size) (c := grownCap w (xs.length + 1) c 3) (xs := xs.insertIdx i x) z2 rfl (by intro h0; have := congrArg List.length h0; simp [hlen] at this) (by rw [hz2, hlen]; omega) hg2
        rw [hlen] at this
        exact this

end Go.Proofs.Ytdgpckcphkpclaa
