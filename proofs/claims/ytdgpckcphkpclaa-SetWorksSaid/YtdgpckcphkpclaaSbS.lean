/- Rows of string that rise: the library's search and insertion, in this logic's words. -/
import Derived.Test.YtdgpckcphkpclaaSaS
import Derived.Test.YtdgpckcphkpclaaSl
import Derived.Test.YtdgpckcphkpclaaFwQ
import Derived.Shelf.Slices.SearchI
import Derived.Shelf.Slices.Empties
import Derived.Shelf.Spec.SearchS
import Derived.Shelf.Spec.SlicesInsertGrow
import Derived.Test.YtdgpckcphkpclaaSbI
set_option linter.unusedVariables false
set_option linter.unusedSimpArgs false
set_option maxHeartbeats 0
set_option maxRecDepth 100000
namespace Go.Proofs.Ytdgpckcphkpclaa
open Go Go.Fw

theorem todo_search_string {K : KM} {v : Value} {xs : List ByteArray} {C : Chunks} (x : ByteArray) (h : TodoR 9 v xs C) (hr : rising xs) (hlen : xs.length < 4611686018427387904) :
    Sp Try.prog 69 [v, Value.string x] K (flat [C]) (fun K' C' r => r = .tuple #[.int .i64 ((xs.countP (fun y => Scal.lt y x) : Nat) : Int), .bool (decide (x ∈ xs))] ∧ TodoR 9 v xs C') := by
  intro w L hS
  have hh := h
  obtain ⟨a, c, rfl, hc1, hc2, h⟩ := h
  by_cases h0 : xs = []
  · subst h0
    have := Any2.slices_BinarySearch_string_empty (P := Try.prog) Try.bsS a c x w
    refine (show Calls Try.prog 69 _ _ _ from this).mono fun e w' ⟨he, hw⟩ => ?_
    subst he hw
    exact ⟨K, C, KM.le.refl K, ⟨rfl, hh⟩, hS.open1⟩
  · rcases h with ⟨rfl, rfl, rfl⟩ | ⟨b, pre, post, rfl, rfl, hc3, hne⟩
    · exact absurd (List.eq_nil_of_length_eq_zero (by omega)) h0
    · have hS' : Sat w K ((b, Cl (pre ++ (xs.map Scal.enc ++ post)) 9) :: flat [L]) := hS.open
      have hcell := cellsR hS'
      have hl : ∀ t, t < xs.length → (xs[t]?).getD x = xs[t]! := fun t ht => by simp [ht]
      have := Any2.slices_BinarySearch_string (P := Try.prog) Try.bsS b pre.length xs.length c (fun j => (xs[j]?).getD x) x w hlen (fun j hj => by
        have h1 : (xs.map (Scal.enc : ByteArray → Value))[j]? = some (.string ((xs[j]?).getD x)) := by
          rw [List.getElem?_map, List.getElem?_eq_getElem hj]; rfl
        exact hcell j _ h1)
      have hk : Lib.bsGo (fun t => Op.bytesLess ((xs[t]?).getD x).toList x.toList) xs.length 0 xs.length = xs.countP (fun y => Scal.lt y x) := by
        refine Lib.bsGo_spec _ _ (fun t ht => ?_) (fun t ht => ?_) _ _ _ (by omega) (Nat.zero_le _) List.countP_le_length
        · have hlt : t < xs.length := Nat.lt_of_lt_of_le ht List.countP_le_length
          rw [List.getElem?_eq_getElem hlt]
          exact (count_at hr x t hlt).2 ht
        · rcases Nat.lt_or_ge t xs.length with hlt | hge
          · rw [List.getElem?_eq_getElem hlt]
            cases hb : Scal.lt xs[t] x with
            | true => exact absurd ((count_at hr x t hlt).1 hb) (by omega)
            | false => exact hb
          · rw [List.getElem?_eq_none hge]
            exact Scal.irr x
      rw [hk] at this
      refine (show Calls Try.prog 69 _ _ _ from this).mono fun e w' ⟨he, q, hw⟩ => ?_
      subst he hw
      refine ⟨K, _, KM.le.refl K, ⟨?_, _, _, rfl, hc1, hc2, .inr ⟨b, pre, post, rfl, rfl, hc3, hne⟩⟩, (hS.drewN q).open1⟩
      refine congrArg (fun q => Value.tuple #[.int .i64 ((xs.countP (fun y => Scal.lt y x) : Nat) : Int), .bool q]) (decide_eq_decide.2 ?_)
      rw [mem_at hr x]
      constructor
      · rintro ⟨h1, h2⟩; rw [List.getElem?_eq_getElem h1] at h2 ⊢; simpa using h2
      · intro h2
        obtain ⟨h1, h3⟩ := List.getElem?_eq_some_iff.1 h2
        exact ⟨h1, by rw [h2]; rfl⟩

theorem ren_string : Try.insS_ren.t 9 = 9 := by kernel_rfl

theorem todo_insert_string {K : KM} {v : Value} {xs : List ByteArray} {C : Chunks} (x : ByteArray) (i vb : Nat) (h : TodoR 9 v xs C) (hi : i ≤ xs.length) (hb : (xs.length + 1) * 16 ≤ 140737488355328) :
    Sp Try.prog 70 [v, .int .i64 (i : Int), .slice (some ⟨vb, 0, none⟩) 1 1] K (flat [C, [(vb, Cl [Value.string x] 9)]]) (fun K' C' r => TodoR 9 r (xs.insertIdx i x) C') := by
  intro w L hS
  obtain ⟨a, c, rfl, hc1, hc2, h⟩ := h
  have hm : xs.length + 1 ≤ maxLen := by unfold maxLen; omega
  have hvs : ∀ {w : World} {L : Chunks}, Sat w K ((vb, Cl [Value.string x] 9) :: L) → ∀ j v, [(Value.string x : Value)][j]? = some v → w.cell? ⟨vb, 0 + j, none⟩ = some v := fun hS j v hj => by
    have := cells_of_heap (hS.owned _ (List.mem_cons_self ..)) j v (by rw [nth_eq]; exact hj)
    simpa using this
  have h1v : ∀ v ∈ [(Value.string x : Value)], v.oneCell' = true := fun v hv => by simp at hv; subst hv; rfl
  have hlen : (xs.insertIdx i x).length = xs.length + 1 := by rw [List.length_insertIdx]; simp [hi]
  have henc : (xs.insertIdx i x).map Scal.enc = (xs.map Scal.enc).take i ++ (Value.string x :: (xs.map Scal.enc).drop i) := by
    rw [ins_split hi]; simp; rfl
  have hz : ∀ n, (Builtin.zeroCells (Value.cells (.string ⟨#[]⟩)) n).toList.length = n := fun n => by simp [Builtin.zeroCells, Value.cells]
  rcases h with ⟨rfl, rfl, rfl⟩ | ⟨b, pre, post, rfl, rfl, hc3, hne⟩
  · have hx : xs = [] := List.eq_nil_of_length_eq_zero (by omega)
    subst hx
    obtain rfl : i = 0 := by simpa using hi
    have hS' : Sat w K ((vb, Cl [Value.string x] 9) :: flat [L]) := hS.open
    have := Any2.slices_Insert_string_end_grow (P := Try.prog) Try.insS none 0 0 vb 0 1 1 [] [Value.string x] w (by omega) (by omega) (by omega) hb rfl rfl (fun _ => rfl) (fun a ha => by cases ha) (hvs hS') h1v
    rw [ren_string] at this
    refine (show Calls Try.prog 70 _ _ _ from this).mono fun e w' ⟨he, hw⟩ => ?_
    subst he hw
    obtain ⟨hg1, hg2⟩ := grownCap_in (w := w) (need := 1) (old := 0) (e := 9) (by unfold maxLen; omega)
    have h2 := (hS'.drop.drew'.alloc (.cells ((([] ++ [Value.string x]) : List Value).toArray ++ Builtin.zeroCells (Value.cells (.string ⟨#[]⟩)) (grownCap w (0 + 1) 0 9 - (0 + 1))) 9))
    have e1 : (.cells ((([] ++ [Value.string x]) : List Value).toArray ++ Builtin.zeroCells (Value.cells (.string ⟨#[]⟩)) (grownCap w (0 + 1) 0 9 - (0 + 1))) 9 : Obj) = Cl ([x].map Scal.enc ++ (Builtin.zeroCells (Value.cells (.string ⟨#[]⟩)) (grownCap w (0 + 1) 0 9 - (0 + 1))).toList) 9 := by
      congr 1
      apply Array.ext'; simp; rfl
    rw [e1] at h2
    show ∃ K' C, KM.le K K' ∧ _ ∧ Sat (w.drew.alloc _) K' _
    rw [e1]
    refine ⟨K, _, KM.le.refl K, TodoR.fresh (xs := [x]) (Builtin.zeroCells (Value.cells (.string ⟨#[]⟩)) (grownCap w (0 + 1) 0 9 - (0 + 1))).toList rfl (by simp) (by rw [hz]; simp; omega) hg2, h2⟩
  · have hS0 : Sat w K ((b, Cl (pre ++ (xs.map Scal.enc ++ post)) 9) :: (vb, Cl [Value.string x] 9) :: flat [L]) := hS.open
    have hS1 : Sat w K ((vb, Cl [Value.string x] 9) :: (b, Cl (pre ++ (xs.map Scal.enc ++ post)) 9) :: flat [L]) := hS0.perm (List.Perm.swap ..)
    have hcell := cellsR hS0
    have hvb : vb ≠ b := fun e => (List.nodup_cons.1 hS1.nodup).1 (by rw [e]; simp)
    have hml : (xs.map (Scal.enc : ByteArray → Value)).length = xs.length := by simp
    by_cases hroom : xs.length + 1 ≤ c
    · have hpost : 0 < post.length := by omega
      by_cases hend : i = xs.length
      · subst hend
        have := Any2.slices_Insert_string_end_room (P := Try.prog) Try.insS b pre.length xs.length c vb 0 1 1 [Value.string x] w (by omega) hroom hc2 rfl
          (fun j hj => (cellsA hS0 (by simp; omega)).1) (fun j hj => frozenA hS0 _) (hvs hS1) h1v
        refine (show Calls Try.prog 70 _ _ _ from this).mono fun e w' ⟨he, hw⟩ => ?_
        subst he hw
        have h2 := Sat.setCells [Value.string x] (pre.length + xs.length) _ w hS0 (by simp; omega)
        have e1 : (pre ++ (xs.map Scal.enc ++ post)).take (pre.length + xs.length) ++ ([Value.string x] ++ (pre ++ (xs.map Scal.enc ++ post)).drop (pre.length + xs.length + [Value.string x].length)) = pre ++ ((xs.insertIdx xs.length x).map Scal.enc ++ post.drop 1) := by
          rw [henc]
          simp only [List.take_append, List.drop_append, hml, List.take_of_length_le (show pre.length ≤ pre.length + xs.length by omega), show pre.length + xs.length - pre.length = xs.length by omega, List.take_of_length_le (show (xs.map (Scal.enc : ByteArray → Value)).length ≤ xs.length by simp), List.length_singleton, Nat.sub_self, List.take_zero, List.append_nil,
            List.drop_of_length_le (show pre.length ≤ pre.length + xs.length + 1 by omega), show pre.length + xs.length + 1 - pre.length = xs.length + 1 by omega, List.drop_of_length_le (show (xs.map (Scal.enc : ByteArray → Value)).length ≤ xs.length + 1 by simp), show xs.length + 1 - xs.length = 1 by omega, List.drop_of_length_le (show (xs.map (Scal.enc : ByteArray → Value)).length ≤ xs.length by simp)]
          simp
        rw [e1] at h2
        refine ⟨K, [(b, Cl (pre ++ ((xs.insertIdx xs.length x).map Scal.enc ++ post.drop 1)) 9)], KM.le.refl K, ⟨_, c, by rw [hlen], by omega, hc2, .inr ⟨b, pre, post.drop 1, rfl, rfl, by simp [hlen]; omega, by intro h0; have := congrArg List.length h0; simp [hlen] at this⟩⟩, ?_⟩
        exact h2.sub (R := [(vb, Cl [Value.string x] 9)]) (by show List.Perm _ ((_ :: flat [L]) ++ _); exact (List.Perm.cons _ (List.perm_append_comm (l₁ := [_]))))
      · have hlt : i < xs.length := by omega
        have := Any2.slices_Insert_string_shift (P := Try.prog) Try.insS b pre.length xs.length c i vb 0 1 1 (xs.map Scal.enc) [Value.string x] w hlt (by omega) hroom hc2 hvb hml rfl hcell
          (fun j hj => (cellsA hS0 (by simp; omega)).1) (fun j hj => frozenA hS0 _) (hvs hS1) (oneM xs) h1v 9 9 1 _ (shapeA hS1) (shapeA hS0) (by rw [List.length_append, List.length_append, List.length_map]; omega) (frozenA hS1 _) (frozenA hS1 _)
        refine (show Calls Try.prog 70 _ _ _ from this).mono fun e w' ⟨he, hw⟩ => ?_
        subst he hw
        have h2 := Sat.setCells ((xs.map Scal.enc).drop i) (pre.length + (i + 1)) _ w.drew hS0.drew' (by simp; omega)
        have h3 := Sat.setCells [Value.string x] (pre.length + i) _ _ h2 (by simp; omega)
        have e0 : pre ++ (xs.map Scal.enc ++ post) = (pre ++ (xs.map (Scal.enc : ByteArray → Value)).take i) ++ ((xs.map Scal.enc).drop i ++ post) := by
          rw [List.append_assoc, ← List.append_assoc (List.take i _), List.take_append_drop]
        have e1 := shiftL (pre ++ (xs.map (Scal.enc : ByteArray → Value)).take i) ((xs.map Scal.enc).drop i) post (Value.string x) hpost (pre.length + i) (by simp; omega)
        simp only [← e0] at e1
        rw [show pre.length + (i + 1) = pre.length + i + 1 by omega] at h3
        rw [e1] at h3
        have e2 : pre ++ (xs.map (Scal.enc : ByteArray → Value)).take i ++ (Value.string x :: (xs.map Scal.enc).drop i ++ post.drop 1) = pre ++ ((xs.insertIdx i x).map Scal.enc ++ post.drop 1) := by
          rw [henc]; simp only [List.append_assoc, List.cons_append]
        rw [e2] at h3
        refine ⟨K, [(b, Cl (pre ++ ((xs.insertIdx i x).map Scal.enc ++ post.drop 1)) 9)], KM.le.refl K, ⟨_, c, by rw [hlen], by omega, hc2, .inr ⟨b, pre, post.drop 1, rfl, rfl, by simp [hlen]; omega, by intro h0; have := congrArg List.length h0; simp [hlen] at this⟩⟩, ?_⟩
        exact h3.sub (R := [(vb, Cl [Value.string x] 9)]) (by show List.Perm _ ((_ :: flat [L]) ++ _); exact (List.Perm.cons _ (List.perm_append_comm (l₁ := [_]))))
    · obtain ⟨hg1, hg2⟩ := grownCap_in (w := w) (need := xs.length + 1) (old := c) (e := 9) hm
      by_cases hend : i = xs.length
      · subst hend
        have := ren_string ▸ Any2.slices_Insert_string_end_grow (P := Try.prog) Try.insS (some ⟨b, pre.length, none⟩) xs.length c vb 0 1 1 (xs.map Scal.enc) [Value.string x] w (by omega) hc1 (by omega) hb hml rfl (fun h => by cases h)
          (fun a ha j v hj => by cases ha; rw [Go.Fw.add_addr]; exact hcell j v hj) (hvs hS1) h1v
        refine (show Calls Try.prog 70 _ _ _ from this).mono fun e w' ⟨he, hw⟩ => ?_
        subst he hw
        have h2 := (hS0.drop.drop.drew'.alloc (.cells ((xs.map Scal.enc ++ [Value.string x]).toArray ++ Builtin.zeroCells (Value.cells (.string ⟨#[]⟩)) (grownCap w (xs.length + 1) c 9 - (xs.length + 1))) 9))
        have e1 : (.cells ((xs.map Scal.enc ++ [Value.string x]).toArray ++ Builtin.zeroCells (Value.cells (.string ⟨#[]⟩)) (grownCap w (xs.length + 1) c 9 - (xs.length + 1))) 9 : Obj) = Cl ((xs.insertIdx xs.length x).map Scal.enc ++ (Builtin.zeroCells (Value.cells (.string ⟨#[]⟩)) (grownCap w (xs.length + 1) c 9 - (xs.length + 1))).toList) 9 := by
          rw [henc, List.take_of_length_le (by simp), List.drop_of_length_le (by simp)]
          congr 1
          apply Array.ext'; simp
        rw [e1] at h2
        show ∃ K' C, KM.le K K' ∧ _ ∧ Sat (w.drew.alloc _) K' _
        rw [e1]
        refine ⟨K, [(w.heap.size, Cl ((xs.insertIdx xs.length x).map Scal.enc ++ (Builtin.zeroCells (Value.cells (.string ⟨#[]⟩)) (grownCap w (xs.length + 1) c 9 - (xs.length + 1))).toList) 9)], KM.le.refl K, ?_, h2⟩
        have := TodoR.fresh (e := 9) (b := w.heap.size) (c := grownCap w (xs.length + 1) c 9) (xs := xs.insertIdx xs.length x) (Builtin.zeroCells (Value.cells (.string ⟨#[]⟩)) (grownCap w (xs.length + 1) c 9 - (xs.length + 1))).toList rfl (by intro h0; have := congrArg List.length h0; simp [hlen] at this) (by rw [hz, hlen]; omega) hg2
        rw [hlen] at this
        exact this
      · have hlt : i < xs.length := by omega
        have := ren_string ▸ Any2.slices_Insert_string_grow (P := Try.prog) Try.insS b pre.length xs.length c i vb 0 1 1 (xs.map Scal.enc) [Value.string x] w hlt (by omega) hc1 (by omega) hb hml rfl hcell (hvs hS1) (oneM xs) h1v
        refine (show Calls Try.prog 70 _ _ _ from this).mono fun e w' ⟨he, hw⟩ => ?_
        subst he hw
        have h2 := hS0.drop.drop.alloc (.cells (((xs.map Scal.enc).take i).toArray ++ Builtin.zeroCells (Value.cells (.string ⟨#[]⟩)) (xs.length + 1 - i) ++ Builtin.zeroCells (Value.cells (.string ⟨#[]⟩)) (grownCap w (xs.length + 1) c 9 - (xs.length + 1))) 9)
        have e1 : (.cells (((xs.map Scal.enc).take i).toArray ++ Builtin.zeroCells (Value.cells (.string ⟨#[]⟩)) (xs.length + 1 - i) ++ Builtin.zeroCells (Value.cells (.string ⟨#[]⟩)) (grownCap w (xs.length + 1) c 9 - (xs.length + 1))) 9 : Obj) = Cl ((xs.map (Scal.enc : ByteArray → Value)).take i ++ ((Builtin.zeroCells (Value.cells (.string ⟨#[]⟩)) (xs.length + 1 - i)).toList ++ (Builtin.zeroCells (Value.cells (.string ⟨#[]⟩)) (grownCap w (xs.length + 1) c 9 - (xs.length + 1))).toList)) 9 := by
          congr 1
          apply Array.ext'; simp
        rw [e1] at h2
        show ∃ K' C, KM.le K K' ∧ _ ∧ Sat (((w.alloc _).drew.setCells _ _ _).drew.setCells _ _ _) K' _
        rw [e1]
        have hz1 := hz (xs.length + 1 - i)
        have hz2 := hz (grownCap w (xs.length + 1) c 9 - (xs.length + 1))
        generalize (Builtin.zeroCells (Value.cells (.string ⟨#[]⟩)) (xs.length + 1 - i)).toList = z1 at h2 hz1 ⊢
        generalize (Builtin.zeroCells (Value.cells (.string ⟨#[]⟩)) (grownCap w (xs.length + 1) c 9 - (xs.length + 1))).toList = z2 at h2 hz2 ⊢
        have h3 := Sat.setCells [Value.string x] i _ _ h2.drew' (by simp; omega)
        have h4 := Sat.setCells ((xs.map Scal.enc).drop i) (i + 1) _ _ h3.drew' (by simp; omega)
        have e2 := growL ((xs.map (Scal.enc : ByteArray → Value)).take i) ((xs.map Scal.enc).drop i) z1 z2 (Value.string x) i (by simp; omega) (by simp; omega)
        rw [e2] at h4
        have e3 : (xs.map (Scal.enc : ByteArray → Value)).take i ++ (Value.string x :: (xs.map Scal.enc).drop i ++ z2) = (xs.insertIdx i x).map Scal.enc ++ z2 := by rw [henc]; simp
        rw [e3] at h4
        refine ⟨K, [(w.heap.size, Cl ((xs.insertIdx i x).map Scal.enc ++ z2) 9)], KM.le.refl K, ?_, h4⟩
        have := TodoR.fresh (e := 9) (b := w.heap.size) (c := grownCap w (xs.length + 1) c 9) (xs := xs.insertIdx i x) z2 rfl (by intro h0; have := congrArg List.length h0; simp [hlen] at this) (by rw [hz2, hlen]; omega) hg2
        rw [hlen] at this
        exact this

end Go.Proofs.Ytdgpckcphkpclaa
