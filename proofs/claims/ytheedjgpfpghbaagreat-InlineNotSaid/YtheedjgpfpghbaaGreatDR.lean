/- A deterministic evaluator: slices.Insert of one int. -/
import Derived.Test.YtheedjgpfpghbaaGreatDQ
import Derived.Test.YtheedjgpfpghbaaGreatFwQ
import Derived.Shelf.Spec.SlicesInsertGrow
set_option linter.unusedVariables false
set_option linter.unusedSectionVars false
set_option linter.unusedSimpArgs false
namespace Go.Ev
open Go Go.Fw

/-- slices.Insert of one element of one cell -/
noncomputable def insQ (E : TypeId) (x : Value) (k vb : Nat) (y : Value) (M : Mem) : Option (Value × Mem) :=
  match x with
  | .slice none 0 0 => bif Nat.beq k 0 then match M.new (.cells [y] E true) with
      | (b, M) => some (.slice (some ⟨b, 0, none⟩) 1 (unk + 1), M)
    else none
  | .slice (some ⟨b, o, none⟩) m c => match M.m.get b with
    | some (.cells cs t _) =>
      bif (Nat.beq t E && Nat.ble (o + m) cs.length) && ((Nat.ble k m && Nat.ble m 16777216) && (!(Nat.beq b vb) && (bif Nat.ble unk c then Nat.beq c (unk + 1) else Nat.beq c m))) then
        match (M.kill b).new (.cells (cut cs o k ++ (y :: cut cs (o + k) (m - k))) E true) with
          | (b', M) => some (.slice (some ⟨b', 0, none⟩) (m + 1) (unk + 1), M)
      else none
    | _ => none
  | _ => none

noncomputable def insP (E : TypeId) : List Value → Mem → Option (Value × Mem)
  | [x, .int .i64 (.ofNat k), .slice (some ⟨vb, vo, none⟩) 1 vc], M => match M.m.get vb with
    | some (.cells vcs _ _) => match nth vcs vo with
      | some y => bif Nat.blt M.nx 1000000 then insQ E x k vb y M else none
      | none => none
    | _ => none
  | _, _ => none

variable [Sym]
section
variable {P : Program} {T : Tab} {ρ ρ' : Rho} {a : Act} {w : World} {K : KM} {L : Chunks} {M M' : Mem} {v : Value} {F E : Nat} {r : Go.Shelf.Ren}

theorem up_kill {b : Nat} (h : Rho.up (M.kill b) M' ρ ρ') : Rho.up M M' ρ ρ' := ⟨h.le, h.keep, h.nx⟩

theorem cut_all (l : List Value) (o k m : Nat) (hk : k ≤ m) : cut l o m = cut l o k ++ cut l (o + k) (m - k) := by
  rw [cut_eq, cut_eq, cut_eq]
  have : m = k + (m - k) := by omega
  conv => lhs; rw [this, List.take_add]
  rw [List.drop_drop]

/-- the new row has been made -/
theorem ins_fresh (hW : World.Is w K L ρ M) (hlim : M.nx < 1000000) {q q' z : List Value} {need cap : Nat} {w' : World} (hq : All2 (RS ρ) q q') (hl : q'.length = need) (hz : z.length = cap - need) (h1 : need ≤ cap) (h2 : cap ≤ maxLen)
    (hw : ∀ C, Sat w K (C ++ L) → Sat w' K ((w.heap.size, Cl (q' ++ z) E) :: (C ++ L))) :
    ∃ ρ', Rho.up M (M.new (.cells q E true)).2 ρ ρ' ∧ RV ρ' (.slice (some ⟨M.nx, 0, none⟩) need (unk + 1)) (.slice (some ⟨w.heap.size, 0, none⟩) need cap) ∧ World.Is w' K L ρ' (M.new (.cells q E true)).2 := by
  obtain ⟨ρ', h3, h4, h5⟩ := World.new (t := E) (opn := true) (post := z) hW hlim hq hw
  exact ⟨ρ', h3, .c (.s (.slu (o := 0) h4 (by rw [hl, hz]; omega) h1 h2)), h5⟩

theorem insP_ok (Ly : Go.Proofs.Lays2.n21 P r) (hF : r.f 21 = F) (hE : r.t 3 = E) (hcall : ∀ (args : Array Value) (w : World), (callFunc F args).run P w = .ok (.enter F args) w) : CallOk P K (fun g args M => if g = F then insP E args M else none) := by
  intro g args M v M' h ρ L w rs hrs hW
  by_cases hg : g = F
  case neg => simp only [if_neg hg] at h; cases h
  subst hg
  refine ⟨hcall _ _, ?_⟩
  have h : insP E args M = some (v, M') := by simpa using h
  unfold insP at h
  split at h
  case h_2 => cases h
  rename_i x k vb vo vc hh
  cases hrs with | cons hx hrs => cases hrs with | cons hk hrs => cases hrs with | cons hv hrs => cases hrs with | nil =>
  rename_i x' k' v'
  have ek := ofNat_int hk
  subst ek
  obtain ⟨vb', vo', vc', rfl, hvc, hvr⟩ := hv.sl
  rcases hvr with h0 | ⟨vs, vm, hvρ, rfl⟩
  · cases h0
  split at h
  case h_2 => cases h
  rename_i vcs vt vop hvget
  split at h
  case h_2 => cases h
  rename_i y hy
  cases hlim : Nat.blt M.nx 1000000 with
  | false => rw [hlim] at h; cases h
  | true =>
  rw [hlim] at h
  simp only [cond_true] at h
  have hlim : M.nx < 1000000 := by simpa using hlim
  -- the element
  have hW0 := hW
  obtain ⟨ids, C, hM, hw⟩ := hW
  obtain ⟨pv, Cv, idv, hpv, hbv, hrv⟩ := hM.pull hvget
  cases hbv with
  | @cells _ vcs' pre1 post1 _ _ b1 n1 hρ1 hc1 hn1 =>
  rw [hvρ] at hρ1; cases hρ1
  rw [nth_eq] at hy
  obtain ⟨y', hy', hyy⟩ := hc1.get hy
  have hsv : Sat w K ((vb', Cl (pre1 ++ (vcs' ++ post1)) vt) :: (Cv ++ L)) := by simpa using hw.perm (hpv.append_right L)
  have hvs : ∀ j u, [y'][j]? = some u → w.cell? ⟨vb', pre1.length + vo + j, none⟩ = some u := fun j u hj => by
    cases j with
    | succ j => simp at hj
    | zero =>
      simp at hj; subst hj
      have hlt := (List.getElem?_eq_some_iff.1 hy').1
      have := cells_of_heap (hsv.owned _ (List.mem_cons_self ..)) (pre1.length + vo) y' (by
        rw [nth_eq, List.getElem?_append_right (by omega), Nat.add_sub_cancel_left, List.getElem?_append_left hlt]; exact hy')
      simpa using this
  have h1v : ∀ u ∈ [y'], u.oneCell' = true := fun u hu => by simp at hu; subst hu; exact hyy.one
  have hzl : ∀ n, (Builtin.zeroCells (Value.int .i64 0).cells n).toList.length = n := fun n => by simp [Builtin.zeroCells, Value.cells]
  unfold insQ at h
  split at h
  · -- nothing yet
    cases hb : Nat.beq k 0 with
    | false => rw [hb] at h; cases h
    | true =>
    rw [hb] at h
    have hk0 := Nat.eq_of_beq_eq_true hb
    subst hk0
    cases h
    have hx0 : x' = .slice none 0 0 := by
      cases hx with | c h => cases h with | s h => cases h; rfl
    subst hx0
    have hc := Go.Proofs.Any2.slices_Insert_int_end_grow (P := P) Ly none 0 0 vb' (pre1.length + vo) 1 vc' [] [y'] w (by omega) (by omega) (by omega) (by omega) rfl rfl (fun _ => rfl) (fun a ha => by cases ha) hvs h1v
    rw [hF, hE] at hc
    obtain ⟨hg1, hg2⟩ := grownCap_in (w := w) (need := 1) (old := 0) (e := E) (by unfold maxLen; omega)
    refine (show Calls P g _ _ _ from hc).mono fun e w' ⟨he, hw'⟩ => ?_
    subst he hw'
    obtain ⟨ρ', h3, h4, h5⟩ := ins_fresh (E := E) (w' := w.drew.alloc (.cells ((([] : List Value) ++ [y']).toArray ++ Builtin.zeroCells (Value.int .i64 0).cells (grownCap w (0 + 1) 0 E - (0 + 1))) E)) hW0 hlim (q := [y]) (q' := [y']) (z := (Builtin.zeroCells (Value.int .i64 0).cells (grownCap w 1 0 E - 1)).toList) (.cons hyy .nil) rfl (hzl _) hg1 hg2 (fun C hs => by
      have h9 := (Sat.drew' hs).alloc (.cells ((([] : List Value) ++ [y']).toArray ++ Builtin.zeroCells (Value.int .i64 0).cells (grownCap w (0 + 1) 0 E - (0 + 1))) E)
      have e9 : ((([] : List Value) ++ [y']).toArray ++ Builtin.zeroCells (Value.int .i64 0).cells (grownCap w (0 + 1) 0 E - (0 + 1))) = ([y'] ++ (Builtin.zeroCells (Value.int .i64 0).cells (grownCap w 1 0 E - 1)).toList).toArray := by apply Array.ext'; simp
      rw [e9] at h9 ⊢
      exact h9)
    exact ⟨ρ', h3, h4, h5⟩
  · rename_i b o m c
    split at h
    case h_2 => cases h
    rename_i cs t opn hbget
    cases hb : ((Nat.beq t E && Nat.ble (o + m) cs.length) && ((Nat.ble k m && Nat.ble m 16777216) && (!(Nat.beq b vb) && (bif Nat.ble unk c then Nat.beq c (unk + 1) else Nat.beq c m)))) with
    | false => rw [hb] at h; cases h
    | true =>
    rw [hb] at h
    cases h
    simp only [Bool.and_eq_true, Bool.not_eq_true'] at hb
    obtain ⟨⟨hb1, hb2⟩, ⟨hb3, hb4⟩, hb5, hb6⟩ := hb
    have hb1 := Nat.eq_of_beq_eq_true hb1
    subst hb1
    have hb2 := Nat.le_of_ble_eq_true hb2
    have hb3 := Nat.le_of_ble_eq_true hb3
    have hb4 := Nat.le_of_ble_eq_true hb4
    have hb5 := Nat.ne_of_beq_eq_false hb5
    obtain ⟨pb, Cb, idb, hpb, hbb, hrb⟩ := hM.pull hbget
    cases hbb with
    | @cells _ cs' pre post _ _ b2 tot hρ hc htot =>
    have hcl := hc.len
    have hs : Sat w K ((b2, Cl (pre ++ (cs' ++ post)) t) :: (Cb ++ L)) := by simpa using hw.perm (hpb.append_right L)
    -- the two blocks are apart
    have hvin : vb ∈ idb := hrb.all vb _ hvget (fun e => hb5 e.symm)
    obtain ⟨pw, idw, Cw, _, hpw, ⟨x2, hx2, hbw⟩, _⟩ := all2_pull hrb.each hvin
    have hpw1 : pw.1 = vb' := by
      obtain ⟨q, h1, h2⟩ := (show ∃ r, ρ vb = some r ∧ pw.1 = r.1 from by
        cases hbw with
        | cells h _ _ => exact ⟨_, h, rfl⟩
        | map h _ => exact ⟨_, h, rfl⟩)
      rw [hvρ] at h1; cases h1; exact h2
    have hapart : vb' ≠ b2 := fun e => by
      have := (List.nodup_cons.1 hs.nodup).1
      refine this (List.mem_map.2 ⟨pw, List.mem_append_left _ (hpw.mem_iff.2 (List.mem_cons_self ..)), ?_⟩)
      rw [hpw1, e]
    have hkill : World.Is w K L ρ (M.kill b) := ⟨_, _, hrb.kill hlim, hs.drop⟩
    have hxs' := cut_R hc o m
    have hq' : All2 (RS ρ) (cut cs o k ++ (y :: cut cs (o + k) (m - k))) (cut cs' o k ++ (y' :: cut cs' (o + k) (m - k))) := (cut_R hc _ _).append (.cons hyy (cut_R hc _ _))
    have hl1 : (cut cs' o k).length = k := cut_len (by omega)
    have hl2 : (cut cs' (o + k) (m - k)).length = m - k := cut_len (by omega)
    have hlm : (cut cs' o m).length = m := cut_len (by omega)
    have hql : (cut cs' o k ++ (y' :: cut cs' (o + k) (m - k))).length = m + 1 := by simp only [List.length_append, List.length_cons, hl1, hl2]; omega
    have htk : (cut cs' o m).take k = cut cs' o k := by rw [cut_all cs' o k m hb3, List.take_append_of_le_length (by omega), List.take_of_length_le (by omega)]
    have hdk : (cut cs' o m).drop k = cut cs' (o + k) (m - k) := by rw [cut_all cs' o k m hb3, List.drop_append, List.drop_of_length_le (by omega), hl1]; simp
    have h1c : ∀ u ∈ cut cs' o m, u.oneCell' = true := List.all_eq_true.1 hxs'.ones
    -- no room, or none at all
    have grown : ∀ (base : Option Addr) (cr : Nat), m ≤ cr → cr < m + 1 → (base = none → m = 0) → (∀ a, base = some a → (m = 0 ∨ a = ⟨b2, pre.length + o, none⟩)) → (0 < m → base = some ⟨b2, pre.length + o, none⟩) →
        Calls P g #[.slice base m cr, .int .i64 (k : Int), .slice (some ⟨vb', pre1.length + vo, none⟩) 1 vc'] w (RetR K L ρ M (.slice (some ⟨M.nx, 0, none⟩) (m + 1) (unk + 1)) ((M.kill b).new (.cells (cut cs o k ++ (y :: cut cs (o + k) (m - k))) t true)).2) := by
      intro base cr hc1 hc2 hn0 hba hbs
      obtain ⟨hg1, hg2⟩ := grownCap_in (w := w) (need := m + 1) (old := cr) (e := t) (by unfold maxLen; omega)
      by_cases hend : k = m
      · subst hend
        have hcc := Go.Proofs.Any2.slices_Insert_int_end_grow (P := P) Ly base k cr vb' (pre1.length + vo) 1 vc' (cut cs' o k) [y'] w (by omega) hc1 (by omega) (by omega) hlm rfl hn0 (fun a ha j u hj => by
          rcases hba a ha with h0 | h0
          · have := (List.getElem?_eq_some_iff.1 hj).1; omega
          · subst h0; exact cells_mid (hs.owned _ (List.mem_cons_self ..)) j u hj) hvs h1v
        rw [hF, hE] at hcc
        refine (show Calls P g _ _ _ from hcc).mono fun e w' ⟨he, hw'⟩ => ?_
        subst he hw'
        obtain ⟨ρ', h3, h4, h5⟩ := ins_fresh (E := t) (w' := w.drew.alloc (.cells ((cut cs' o k ++ [y']).toArray ++ Builtin.zeroCells (Value.int .i64 0).cells (grownCap w (k + 1) cr t - (k + 1))) t)) hkill hlim (z := (Builtin.zeroCells (Value.int .i64 0).cells (grownCap w (k + 1) cr t - (k + 1))).toList) hq' hql (hzl _) hg1 hg2 (fun C hs => by
          have h9 := (Sat.drew' hs).alloc (.cells ((cut cs' o k ++ [y']).toArray ++ Builtin.zeroCells (Value.int .i64 0).cells (grownCap w (k + 1) cr t - (k + 1))) t)
          have e0 : cut cs' (o + k) (k - k) = [] := List.eq_nil_of_length_eq_zero (by rw [hl2]; omega)
          have e9 : ((cut cs' o k ++ [y']).toArray ++ Builtin.zeroCells (Value.int .i64 0).cells (grownCap w (k + 1) cr t - (k + 1))) = ((cut cs' o k ++ (y' :: cut cs' (o + k) (k - k))) ++ (Builtin.zeroCells (Value.int .i64 0).cells (grownCap w (k + 1) cr t - (k + 1))).toList).toArray := by apply Array.ext'; rw [e0]; simp
          rw [e9] at h9 ⊢
          exact h9)
        exact ⟨ρ', up_kill h3, h4, h5⟩
      · have hlt : k < m := by omega
        have hbase := hbs (by omega)
        subst hbase
        have hcc := Go.Proofs.Any2.slices_Insert_int_grow (P := P) Ly b2 (pre.length + o) m cr k vb' (pre1.length + vo) 1 vc' (cut cs' o m) [y'] w hlt (by omega) hc1 (by omega) (by omega) hlm rfl (fun j u hj => by
          have := cells_mid (hs.owned _ (List.mem_cons_self ..)) j u hj
          rw [Go.Fw.add_addr] at this; exact this) hvs h1c h1v
        rw [hF, hE] at hcc
        refine (show Calls P g _ _ _ from hcc).mono fun e w' ⟨he, hw'⟩ => ?_
        subst he hw'
        obtain ⟨ρ', h3, h4, h5⟩ := ins_fresh (E := t) (w' := (((w.alloc (.cells (((cut cs' o m).take k).toArray ++ Builtin.zeroCells (Value.int .i64 0).cells (m + 1 - k) ++ Builtin.zeroCells (Value.int .i64 0).cells (grownCap w (m + 1) cr t - (m + 1))) t)).drew.setCells w.heap.size k [y']).drew).setCells w.heap.size (k + 1) ((cut cs' o m).drop k)) hkill hlim (z := (Builtin.zeroCells (Value.int .i64 0).cells (grownCap w (m + 1) cr t - (m + 1))).toList) hq' hql (hzl _) hg1 hg2 (fun C hs => by
          have h2 := hs.alloc (.cells (((cut cs' o m).take k).toArray ++ Builtin.zeroCells (Value.int .i64 0).cells (m + 1 - k) ++ Builtin.zeroCells (Value.int .i64 0).cells (grownCap w (m + 1) cr t - (m + 1))) t)
          have e1 : (.cells (((cut cs' o m).take k).toArray ++ Builtin.zeroCells (Value.int .i64 0).cells (m + 1 - k) ++ Builtin.zeroCells (Value.int .i64 0).cells (grownCap w (m + 1) cr t - (m + 1))) t : Obj) = Cl ((cut cs' o m).take k ++ ((Builtin.zeroCells (Value.int .i64 0).cells (m + 1 - k)).toList ++ (Builtin.zeroCells (Value.int .i64 0).cells (grownCap w (m + 1) cr t - (m + 1))).toList)) t := by
            congr 1
            apply Array.ext'; simp
          rw [e1] at h2 ⊢
          have hz1 := hzl (m + 1 - k)
          generalize (Builtin.zeroCells (Value.int .i64 0).cells (m + 1 - k)).toList = z1 at h2 hz1 ⊢
          generalize (Builtin.zeroCells (Value.int .i64 0).cells (grownCap w (m + 1) cr t - (m + 1))).toList = z2 at h2 ⊢
          rw [htk] at h2
          rw [htk, hdk]
          have h3 := Sat.setCells [y'] k _ _ h2.drew' (by simp only [List.length_append, hl1, hz1, List.length_singleton]; omega)
          have h4 := Sat.setCells (cut cs' (o + k) (m - k)) (k + 1) _ _ h3.drew' (by
            simp only [List.length_append, List.length_take, List.length_drop, List.length_singleton, hl1, hl2, hz1]; omega)
          have e2 := growL (cut cs' o k) (cut cs' (o + k) (m - k)) z1 z2 y' k hl1 (by rw [hl2, hz1]; omega)
          rw [e2] at h4
          have e3 : cut cs' o k ++ (y' :: cut cs' (o + k) (m - k) ++ z2) = (cut cs' o k ++ (y' :: cut cs' (o + k) (m - k))) ++ z2 := by simp
          rw [e3] at h4
          exact h4)
        exact ⟨ρ', up_kill h3, h4, h5⟩
    cases hu : Nat.ble unk c with
    | false =>
      rw [hu] at hb6
      have hb6 := Nat.eq_of_beq_eq_true hb6
      cases hx with | c hx => cases hx with | s hx => cases hx with
        | plain h => cases h
        | slu _ _ _ _ => rw [Nat.ble_eq_true_of_le (Nat.le_add_right _ _)] at hu; cases hu
        | slz => rw [Nat.ble_eq_true_of_le (Nat.le_add_right _ _)] at hu; cases hu
        | sl h3 hcc hn3 hm3 =>
          rw [hρ] at h3; cases h3
          exact grown _ _ hn3 (by omega) (fun h => by cases h) (fun a ha => by cases ha; exact .inr rfl) (fun _ => rfl)
    | true =>
      rw [hu] at hb6
      have hb6 := Nat.eq_of_beq_eq_true hb6
      cases hx with | c hx => cases hx with | s hx => cases hx with
        | plain h => cases h
        | sl _ hcc _ _ => rw [hu] at hcc; cases hcc
        | slz => exact grown _ _ (Nat.le_refl _) (by omega) (fun h => by cases h) (fun a ha => .inl rfl) (fun h => by omega)
        | @slu _ _ _ z c' b3 s3 m3 h3 ht3 hn3 hm3 =>
          have hz1 : z = 1 := by omega
          subst hz1
          rw [hρ] at h3; cases h3
          rw [Nat.mul_one] at ht3
          rcases Nat.lt_or_ge c' (m + 1) with hlt | hroom
          · exact grown _ _ hn3 hlt (fun h => by cases h) (fun a ha => by cases ha; exact .inr rfl) (fun _ => rfl)
          · -- there is room
            have e0 : pre ++ (cs' ++ post) = (pre ++ cs'.take o) ++ (cut cs' o m ++ (cs'.drop (o + m) ++ post)) := by
              have e1 : cs' = cs'.take o ++ (cut cs' o m ++ cs'.drop (o + m)) := by
                rw [cut_eq, ← List.drop_drop, List.take_append_drop, List.take_append_drop]
              conv => lhs; rw [e1]
              simp only [List.append_assoc]
            have hUl : (pre ++ cs'.take o).length = pre.length + o := by simp; omega
            have hRl : (cs'.drop (o + m) ++ post).length = c' - m := by simp only [List.length_append, List.length_drop]; omega
            have hlen0 : (pre ++ (cs' ++ post)).length = tot := by simp only [List.length_append]; omega
            have fin : ∀ w', Sat w' K ((b2, Cl ((pre ++ cs'.take o) ++ ((cut cs' o k ++ (y' :: cut cs' (o + k) (m - k))) ++ (cs'.drop (o + m) ++ post).drop 1)) t) :: (Cb ++ L)) →
                RetR K L ρ M (.slice (some ⟨M.nx, 0, none⟩) (m + 1) (unk + 1)) ((M.kill b).new (.cells (cut cs o k ++ (y :: cut cs (o + k) (m - k))) t true)).2 (.returned (.slice (some ⟨b2, pre.length + o, none⟩) (m + 1) c')) w' := fun w' hS' => by
              have hMk := hrb.kill hlim
              have hle := Rho.le_with (r := (b2, (pre ++ cs'.take o).length, tot)) (i := M.nx) hMk.fresh
              have hself : (ρ.with M.nx (b2, (pre ++ cs'.take o).length, tot)) M.nx = some (b2, (pre ++ cs'.take o).length, tot) := if_pos rfl
              have hnew := hMk.new (M := M.kill b) (r := (b2, (pre ++ cs'.take o).length, tot)) (y := .cells (cut cs o k ++ (y :: cut cs (o + k) (m - k))) t true) hlim (.cells (pre := pre ++ cs'.take o) (post := (cs'.drop (o + m) ++ post).drop 1) hself (hq'.imp fun _ _ h => h.mono hle) (by
                rw [hUl, hql, List.length_drop, hRl]; omega))
              refine ⟨_, .with (Nat.le_succ _) hMk.fresh (Nat.le_refl _), .c (.s ?_), _, _, hnew, hS'⟩
              rw [← hUl]
              exact .slu (o := 0) hself (by rw [hUl]; omega) hroom hm3
            have hcellA : ∀ j, j < tot → (w.cell? ⟨b2, j, none⟩).isSome = true := fun j hj => (cellsA hs (by rw [hlen0]; exact hj)).1
            by_cases hend : k = m
            · subst hend
              have hcc := Go.Proofs.Any2.slices_Insert_int_end_room (P := P) Ly b2 (pre.length + o) k c' vb' (pre1.length + vo) 1 vc' [y'] w (by omega) hroom hm3 rfl
                (fun j hj => hcellA _ (by omega)) (fun j hj => frozenA hs _) hvs h1v
              rw [hF] at hcc
              refine (show Calls P g _ _ _ from hcc).mono fun e w' ⟨he, hw'⟩ => ?_
              subst he hw'
              refine fin _ ?_
              have h2 := Sat.setCells [y'] (pre.length + o + k) _ w hs (by rw [hlen0]; simp; omega)
              have e2 : (pre ++ (cs' ++ post)).take (pre.length + o + k) ++ ([y'] ++ (pre ++ (cs' ++ post)).drop (pre.length + o + k + [y'].length)) = (pre ++ cs'.take o) ++ ((cut cs' o k ++ (y' :: cut cs' (o + k) (k - k))) ++ (cs'.drop (o + k) ++ post).drop 1) := by
                have e3 : cut cs' (o + k) (k - k) = [] := List.eq_nil_of_length_eq_zero (by rw [hl2]; omega)
                rw [e3, e0, ← List.append_assoc (pre ++ cs'.take o)]
                have hU2 : ((pre ++ cs'.take o) ++ cut cs' o k).length = pre.length + o + k := by rw [List.length_append, hUl, hlm]
                rw [List.take_append_of_le_length (by omega), List.take_of_length_le (by omega), List.drop_append, List.drop_of_length_le (by rw [hU2]; omega), hU2]
                simp
              rw [e2] at h2
              exact h2
            · have hlt : k < m := by omega
              have hcc := Go.Proofs.Any2.slices_Insert_int_shift (P := P) Ly b2 (pre.length + o) m c' k vb' (pre1.length + vo) 1 vc' (cut cs' o m) [y'] w hlt (by omega) hroom hm3 hapart hlm rfl (fun j u hj => by
                  have := cells_mid (hs.owned _ (List.mem_cons_self ..)) j u hj
                  rw [Go.Fw.add_addr] at this; exact this)
                (fun j hj => hcellA _ (by omega)) (fun j hj => frozenA hs _) hvs h1c h1v vt t (pre1 ++ (vcs' ++ post1)).length (pre ++ (cs' ++ post)).length (shapeA hsv) (shapeA hs) (by rw [hlen0]; omega) (frozenA hsv _) (frozenA hsv _)
              rw [hF] at hcc
              refine (show Calls P g _ _ _ from hcc).mono fun e w' ⟨he, hw'⟩ => ?_
              subst he hw'
              refine fin _ ?_
              have h2 := Sat.setCells ((cut cs' o m).drop k) (pre.length + o + (k + 1)) _ w.drew hs.drew' (by rw [hlen0, hdk, hl2]; omega)
              have h3 := Sat.setCells [y'] (pre.length + o + k) _ _ h2 (by
                simp only [List.length_append, List.length_take, List.length_drop, List.length_singleton]; simp only [List.length_append] at hlen0; omega)
              have e2 : pre ++ (cs' ++ post) = ((pre ++ cs'.take o) ++ cut cs' o k) ++ (cut cs' (o + k) (m - k) ++ (cs'.drop (o + m) ++ post)) := by
                rw [e0, cut_all cs' o k m hb3]; simp only [List.append_assoc]
              have e1 := shiftL ((pre ++ cs'.take o) ++ cut cs' o k) (cut cs' (o + k) (m - k)) (cs'.drop (o + m) ++ post) y' (by rw [hRl]; omega) (pre.length + o + k) (by rw [List.length_append, hUl, hl1])
              simp only [← e2] at e1
              rw [hdk, show pre.length + o + (k + 1) = pre.length + o + k + 1 by omega] at h3
              rw [e1] at h3
              have e4 : pre ++ cs'.take o ++ cut cs' o k ++ (y' :: cut cs' (o + k) (m - k) ++ (cs'.drop (o + m) ++ post).drop 1) = (pre ++ cs'.take o) ++ ((cut cs' o k ++ (y' :: cut cs' (o + k) (m - k))) ++ (cs'.drop (o + m) ++ post).drop 1) := by
                simp only [List.append_assoc, List.cons_append]
              rw [e4] at h3
              rw [hdk, show pre.length + o + (k + 1) = pre.length + o + k + 1 by omega]
              exact h3
  · cases h
end
end Go.Ev
