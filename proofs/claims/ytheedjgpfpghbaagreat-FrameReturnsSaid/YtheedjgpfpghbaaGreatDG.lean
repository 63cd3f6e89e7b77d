/- A deterministic evaluator: append. -/
import Derived.Test.YtheedjgpfpghbaaGreatDF
import Derived.Lib.AppendStr
set_option linter.unusedVariables false
set_option linter.unusedSectionVars false
set_option linter.unusedSimpArgs false
set_option maxHeartbeats 2000000
namespace Go.Ev
open Go Go.Fw
variable [Sym]
section
variable {P : Program} {T : Tab} {ρ : Rho} {tab : Nat → Option TI} {eqs : Nat → Option (List TK)} {zt : Nat → Option Value} {e : Operand → Option Value} {σ : Slots} {v : Value} {N : Nat} {a : Act} {w : World} {K : KM} {L : Chunks} {M M' : Mem}
  {call : Nat → List Value → Mem → Option (Value × Mem)}

theorem app_room (t ty e : TypeId) (i : TypeInfo) (ht : P.underlying t = some (.slice e)) (hi : P.info? e = some i)
    (g o sLen sCap : Nat) (cur : Array Value) (hg : w.heap[g]? = some (.cells cur e (0, 0)))
    (p : Addr) (m c : Nat) (news : List Value) (hl : news.length = m * i.size) (hnews : ∀ j u, news[j]? = some u → w.cell? (p.add j) = some u) (h1 : ∀ u ∈ news, u.oneCell' = true)
    (hroom : sLen + m ≤ sCap) (hfit : o + sLen * i.size + news.length ≤ cur.size) :
    (Builtin.append_ #[t, t] ty #[.slice (some ⟨g, o, none⟩) sLen sCap, .slice (some p) m c]).run P w =
      .ok (.slice (some ⟨g, o, none⟩) (sLen + m) sCap) (w.setRow g (cur.toList.take (o + sLen * i.size) ++ news ++ cur.toList.drop (o + sLen * i.size + news.length)).toArray) := by
  have hf := run_firstCells_some (P := P) w i.size m p m c news hl hnews
  have hst := run_storeCells_at P g (o + sLen * i.size) e news 0 cur w hg (by simpa using hfit) h1
  simp only [Nat.add_zero] at hst
  simp [Builtin.append_, run_underlying ht, sizeOf, typeInfo, hi, Builtin.lenOf, hroom, hf, add_addr, hst]

theorem cut_R {l m : List Value} (h : All2 (RS ρ) l m) (o n : Nat) : All2 (RS ρ) (cut l o n) (cut m o n) := by
  rw [cut_eq, cut_eq]; exact (h.drop o).take n

theorem cut_len {l : List Value} {o n : Nat} (h : o + n ≤ l.length) : (cut l o n).length = n := by
  rw [cut_eq]; simp; omega

/-- what is appended: a row, a text's bytes -/
inductive AppSrc (P : Program) (t t' : TypeId) (sz : Nat) (w : World) : Value → Nat → List Value → Prop
  | sl {p : Addr} {n c : Nat} {ys : List Value} (ht : t' = t) (hcell : ∀ j u, ys[j]? = some u → w.cell? (p.add j) = some u) : AppSrc P t t' sz w (.slice (some p) n c) n ys
  | str {s : ByteArray} (hu : P.underlying t' = some .string) (h1 : sz = 1) : AppSrc P t t' sz w (.string s) s.size (Lib.strCells s)

theorem src_nil {t t' ty e : TypeId} {i : TypeInfo} {z : Value} (ht : P.underlying t = some (.slice e)) (hi : P.info? e = some i) (hz : i.zero = some z) {y : Value} {n : Nat} {ys : List Value} (hy : AppSrc P t t' i.size w y n ys) (hl : ys.length = n * i.size)
    (h0 : 0 < n) (h63 : (n : Int) ≤ 9223372036854775807) (h48 : n * i.bytes ≤ 281474976710656) :
    (Builtin.append_ #[t, t'] ty #[.slice none 0 0, y]).run P w = .ok (.slice (some ⟨w.heap.size, 0, none⟩) n (grownCap w n 0 e)) (w.drew.alloc (.cells (ys.toArray ++ Builtin.zeroCells z.cells (grownCap w n 0 e - n)) e)) := by
  cases hy with
  | @sl p _ c _ ht' hcell => subst ht'; exact run_append_nil (P := P) w _ ty e i z ht hi hz p n c ys hl hcell h0 h63 h48
  | @str s hu h1 =>
    have e9 : s.data.map (fun b => Value.int .u8 b.toNat) = (Lib.strCells s).toArray := by apply Array.ext'; simp [Lib.strCells]
    rw [← e9]
    exact run_append_nil_string (P := P) w t t' ty e i z ht hu hi hz s h0 h63 h48

theorem src_grow {t t' ty e : TypeId} {i : TypeInfo} {z : Value} (ht : P.underlying t = some (.slice e)) (hi : P.info? e = some i) (hz : i.zero = some z) (b : Addr) (sLen sCap : Nat) (olds : List Value) (hlo : olds.length = sLen * i.size) (holds : ∀ j v, olds[j]? = some v → w.cell? (b.add j) = some v)
    {y : Value} {n : Nat} {ys : List Value} (hy : AppSrc P t t' i.size w y n ys) (hl : ys.length = n * i.size) (hg : sCap < sLen + n) (h63 : ((sLen + n : Nat) : Int) ≤ 9223372036854775807) (hfit : Builtin.nextslicecap (sLen + n) sCap * i.bytes ≤ 281474976710656) :
    (Builtin.append_ #[t, t'] ty #[.slice (some b) sLen sCap, y]).run P w = .ok (.slice (some ⟨w.heap.size, 0, none⟩) (sLen + n) (grownCap w (sLen + n) sCap e))
        (w.drew.alloc (.cells (olds.toArray ++ ys.toArray ++ Builtin.zeroCells z.cells (grownCap w (sLen + n) sCap e - (sLen + n))) e)) := by
  cases hy with
  | @sl p _ c _ ht' hcell => subst ht'; exact run_append_grow (P := P) w _ ty e i z ht hi hz b sLen sCap olds hlo holds p n c ys hl hcell hg h63 hfit
  | @str s hu h1 => exact Lib.run_append_grow_string (P := P) w t t' ty e i z ht hu hi hz b sLen sCap olds hlo holds s hg h63 hfit

theorem src_room {t t' ty e : TypeId} {i : TypeInfo} (ht : P.underlying t = some (.slice e)) (hi : P.info? e = some i)
    (g o sLen sCap : Nat) (cur : Array Value) (hg : w.heap[g]? = some (.cells cur e (0, 0))) {y : Value} {n : Nat} {ys : List Value} (hy : AppSrc P t t' i.size w y n ys) (hl : ys.length = n * i.size) (h1 : ∀ u ∈ ys, u.oneCell' = true)
    (hroom : sLen + n ≤ sCap) (hfit : o + sLen * i.size + ys.length ≤ cur.size) :
    (Builtin.append_ #[t, t'] ty #[.slice (some ⟨g, o, none⟩) sLen sCap, y]).run P w =
      .ok (.slice (some ⟨g, o, none⟩) (sLen + n) sCap) (w.setRow g (cur.toList.take (o + sLen * i.size) ++ ys ++ cur.toList.drop (o + sLen * i.size + ys.length)).toArray) := by
  cases hy with
  | @sl p _ c _ ht' hcell => subst ht'; exact app_room (P := P) (w := w) _ ty e i ht hi g o sLen sCap cur hg p n c ys hl hcell h1 hroom hfit
  | @str s hu hs1 =>
    have hf := Lib.run_firstCells_string (P := P) w 1 s
    have hst := run_storeCells_at P g (o + sLen * i.size) e (Lib.strCells s) 0 cur w hg (by simpa using hfit) h1
    simp only [Nat.add_zero] at hst
    rw [hs1, Nat.mul_one] at hst ⊢
    simp [Builtin.append_, run_underlying ht, run_underlying hu, sizeOf, typeInfo, hi, hs1, Builtin.lenOf, hroom, hf, add_addr, hst]

/-- what append comes to -/
def ARun (P : Program) (t t' ty : TypeId) (w : World) (K : KM) (L : Chunks) (ρ : Rho) (M : Mem) (x y : Value) (v : Value) (M' : Mem) : Prop :=
  ∃ u w' ρ', (Builtin.append_ #[t, t'] ty #[x, y]).run P w = .ok u w' ∧ Rho.up M M' ρ ρ' ∧ RV ρ' v u ∧ World.Is w' K L ρ' M'

theorem ARun.kill {t t' ty : TypeId} {x y v : Value} {b : Nat} (h : ARun P t t' ty w K L ρ (M.kill b) x y v M') : ARun P t t' ty w K L ρ M x y v M' := by
  obtain ⟨u, w', ρ', h1, ⟨h2, h3, h4⟩, h5⟩ := h
  exact ⟨u, w', ρ', h1, ⟨h2, h3, h4⟩, h5⟩

/-- a row grows into a new block -/
theorem app_new (hM : World.Is w K L ρ M) (hlim : M.nx < 1000000) {cs cs' : List Value} {et : TypeId} {z : Array Value} {cap need es : Nat} (hc : All2 (RS ρ) cs cs') (hl : cs'.length = need * es) (hcap : need ≤ cap) (hm : cap ≤ maxLen) (hz : z.size = (cap - need) * es) :
    ∃ ρ', Rho.up M (M.new (.cells cs et true)).2 ρ ρ' ∧ RV ρ' (.slice (some ⟨M.nx, 0, none⟩) need (unk + es)) (.slice (some ⟨w.heap.size, 0, none⟩) need cap) ∧ World.Is (w.drew.alloc (.cells (cs'.toArray ++ z) et)) K L ρ' (M.new (.cells cs et true)).2 := by
  obtain ⟨ρ', h1, h2, h3⟩ := World.new (w' := w.drew.alloc (.cells (cs'.toArray ++ z) et)) (t := et) (opn := true) (post := z.toList) hM hlim hc (fun C hs => by
    have h9 := (Sat.drew hs).alloc (w := w.drew) (.cells (cs'.toArray ++ z) et)
    have e9 : (cs'.toArray ++ z) = (cs' ++ z.toList).toArray := by apply Array.ext'; simp
    rw [e9] at h9 ⊢
    exact h9)
  refine ⟨ρ', h1, .c (.s (.slu (o := 0) h2 ?_ hcap hm)), h3⟩
  rw [hl, Array.length_toList, hz, ← Nat.add_mul]
  have : need + (cap - need) = cap := by omega
  rw [this]; omega

theorem app_nil [hT : TabC P T] {t t' ty et : TypeId} {i : TI} (ht : tk T t = some i) (hk : i.kind = .slice et) (hW : World.Is w K L ρ M) (hlim : M.nx < 1000000) {ys ys' : List Value} {n : Nat} {y' : Value}
    (hy : All2 (RS ρ) ys ys') (hlen : ys.length = n * i.esize) (h0 : 0 < n) (hez : i.ezero.length = i.esize) (hb : n * i.ebytes ≤ 140737488355328) (hn : n ≤ 16777216) (hsrc : AppSrc P t t' i.esize w y' n ys') :
    ARun P t t' ty w K L ρ M (.slice none 0 0) y' (.slice (some ⟨M.nx, 0, none⟩) n (unk + i.esize)) (M.new (.cells ys et true)).2 := by
  obtain ⟨d0, hu, hk0, _, _, _, he⟩ := entry_spec (hT.all.get ht)
  have hd1 := kind_slice (hk0.trans hk)
  rw [hd1] at hu
  obtain ⟨⟨j, hj, hjs, hjb, z, hz, hzz⟩, _⟩ := he et (by rw [hk]; rfl)
  have hzs : z.cells.size = j.size := by rw [hjs, ← hez, ← hzz]; simp
  have hl' : ys'.length = n * j.size := by rw [← hy.len, hlen, hjs]
  have hr := src_nil (P := P) (w := w) (t := t) (t' := t') (ty := ty) hu hj hz (by rw [hjs]; exact hsrc) hl' h0 (by omega) (by rw [hjb]; omega)
  obtain ⟨ρ', h1, h2, h3⟩ := app_new (et := et) (z := Builtin.zeroCells z.cells (grownCap w n 0 et - n)) (es := i.esize) hW hlim hy (by rw [hl', hjs]) (grownCap_ge w n 0 et) (grownCap_le_maxLen w n 0 et (by unfold maxLen; omega)) (by rw [size_zeroCells, hzs, hjs])
  exact ⟨_, _, ρ', hr, h1, h2, h3⟩

theorem app_grow [hT : TabC P T] {t t' ty et : TypeId} {i : TI} (ht : tk T t = some i) (hk : i.kind = .slice et) (hW : World.Is w K L ρ M) (hlim : M.nx < 1000000) {xs xs' ys ys' : List Value} {m n cx : Nat} {q : Addr} {y' : Value}
    (hx : All2 (RS ρ) xs xs') (hxl : xs.length = m * i.esize) (hy : All2 (RS ρ) ys ys') (hlen : ys.length = n * i.esize) (h0 : 0 < n) (hez : i.ezero.length = i.esize) (hb : (m + n) * i.ebytes ≤ 140737488355328) (hn : m + n ≤ 16777216)
    (hno : cx < m + n) (hxc : ∀ j u, xs'[j]? = some u → w.cell? (q.add j) = some u) (hsrc : AppSrc P t t' i.esize w y' n ys') :
    ARun P t t' ty w K L ρ M (.slice (some q) m cx) y' (.slice (some ⟨M.nx, 0, none⟩) (m + n) (unk + i.esize)) (M.new (.cells (xs ++ ys) et true)).2 := by
  obtain ⟨d0, hu, hk0, _, _, _, he⟩ := entry_spec (hT.all.get ht)
  have hd1 := kind_slice (hk0.trans hk)
  rw [hd1] at hu
  obtain ⟨⟨j, hj, hjs, hjb, z, hz, hzz⟩, _⟩ := he et (by rw [hk]; rfl)
  have hzs : z.cells.size = j.size := by rw [hjs, ← hez, ← hzz]; simp
  have hl' : ys'.length = n * j.size := by rw [← hy.len, hlen, hjs]
  have hlx : xs'.length = m * j.size := by rw [← hx.len, hxl, hjs]
  have hr := src_grow (P := P) (w := w) (t := t) (t' := t') (ty := ty) hu hj hz q m cx xs' hlx hxc (by rw [hjs]; exact hsrc) hl' hno (by omega) (by rw [hjb]; exact growslice_fits hno hb)
  obtain ⟨ρ', h1, h2, h3⟩ := app_new (et := et) (z := Builtin.zeroCells z.cells (grownCap w (m + n) cx et - (m + n))) (es := i.esize) hW hlim (hx.append hy) (by rw [List.length_append, hl', hlx, hjs, Nat.add_mul]) (grownCap_ge w (m + n) cx et) (grownCap_le_maxLen w (m + n) cx et (by unfold maxLen; omega)) (by rw [size_zeroCells, hzs, hjs])
  have e9 : (xs' ++ ys').toArray = xs'.toArray ++ ys'.toArray := by apply Array.ext'; simp
  rw [e9] at h3
  exact ⟨_, _, ρ', hr, h1, h2, h3⟩

theorem take_mid {pre cs post : List Value} {o s : Nat} (h : o + s ≤ cs.length) : (pre ++ (cs ++ post)).take (pre.length + o + s) = (pre ++ cs.take o) ++ cut cs o s := by
  rw [cut_eq, List.take_append, List.take_of_length_le (by omega), show pre.length + o + s - pre.length = o + s by omega, List.take_append_of_le_length h, List.take_add, List.append_assoc]

/-- append in place to a row of unknown cap -/
theorem app_in [hT : TabC P T] {t t' ty et : TypeId} {i : TI} (ht : tk T t = some i) (hk : i.kind = .slice et) (hlim : M.nx < 1000000) {b o b' tot m n c' : Nat} {pre cs cs' post ys ys' : List Value} {ids : List Nat} {C : Chunks} {y' : Value}
    (hrest : RestR ρ M b ids C) (hs : Sat w K ((b', Cl (pre ++ (cs' ++ post)) et) :: (C ++ L))) (hc : All2 (RS ρ) cs cs') (htot : pre.length + (cs'.length + post.length) = tot)
    (hy : All2 (RS ρ) ys ys') (hlen : ys.length = n * i.esize) (hin : o + m * i.esize ≤ cs.length) (hcap : pre.length + o + c' * i.esize = tot) (hroom : m + n ≤ c') (hcm : c' ≤ maxLen) (hsrc : AppSrc P t t' i.esize w y' n ys') :
    ARun P t t' ty w K L ρ M (.slice (some ⟨b', pre.length + o, none⟩) m c') y' (.slice (some ⟨M.nx, 0, none⟩) (m + n) (unk + i.esize)) ((M.kill b).new (.cells (cut cs o (m * i.esize) ++ ys) et true)).2 := by
  obtain ⟨d0, hu, hk0, _, _, _, he⟩ := entry_spec (hT.all.get ht)
  have hd1 := kind_slice (hk0.trans hk)
  rw [hd1] at hu
  obtain ⟨⟨j, hj, hjs, hjb, z, hz, hzz⟩, _⟩ := he et (by rw [hk]; rfl)
  have hl' : ys'.length = n * i.esize := by rw [← hy.len, hlen]
  have hmul : (m + n) * i.esize ≤ c' * i.esize := Nat.mul_le_mul_right _ hroom
  rw [Nat.add_mul] at hmul
  have hcl := hc.len
  have hone : ∀ u ∈ ys', u.oneCell' = true := List.all_eq_true.1 hy.ones
  have hr := src_room (P := P) (w := w) (t := t) (t' := t') (ty := ty) hu hj b' (pre.length + o) m c' (pre ++ (cs' ++ post)).toArray (hs.owned _ (List.mem_cons_self ..)) (by rw [hjs]; exact hsrc) (by rw [hjs]; exact hl') hone hroom (by
    rw [hjs, hl']; simp only [List.size_toArray, List.length_append]; omega)
  rw [hjs] at hr
  have hset := Sat.setRow (cs' := (pre ++ cs'.take o) ++ ((cut cs' o (m * i.esize) ++ ys') ++ (pre ++ (cs' ++ post)).drop (pre.length + o + m * i.esize + ys'.length))) hs
  have e1 : ((pre ++ (cs' ++ post)).toArray.toList.take (pre.length + o + m * i.esize) ++ ys' ++ (pre ++ (cs' ++ post)).toArray.toList.drop (pre.length + o + m * i.esize + ys'.length)) = (pre ++ cs'.take o) ++ ((cut cs' o (m * i.esize) ++ ys') ++ (pre ++ (cs' ++ post)).drop (pre.length + o + m * i.esize + ys'.length)) := by
    simp only [List.toList_toArray]
    rw [take_mid (by omega)]
    simp only [List.append_assoc]
  rw [e1] at hr
  have hM := hrest.kill hlim
  have hle := Rho.le_with (r := (b', (pre ++ cs'.take o).length, tot)) (i := M.nx) hM.fresh
  have hself : (ρ.with M.nx (b', (pre ++ cs'.take o).length, tot)) M.nx = some (b', (pre ++ cs'.take o).length, tot) := if_pos rfl
  have hpl : (pre ++ cs'.take o).length = pre.length + o := by simp; omega
  have hcut : (cut cs' o (m * i.esize)).length = m * i.esize := cut_len (by omega)
  have hnew := hM.new (M := M.kill b) (r := (b', (pre ++ cs'.take o).length, tot)) (y := .cells (cut cs o (m * i.esize) ++ ys) et true) hlim (.cells (pre := pre ++ cs'.take o) (post := (pre ++ (cs' ++ post)).drop (pre.length + o + m * i.esize + ys'.length)) hself (((cut_R hc _ _).append hy).imp fun _ _ h => h.mono hle) (by
    rw [hpl]
    simp only [List.length_append, List.length_drop, hcut, hl']
    omega))
  refine ⟨_, _, _, hr, .with (Nat.le_succ _) hM.fresh (Nat.le_refl _), .c (.s ?_), _, _, hnew, hset⟩
  rw [← hpl]
  refine .slu (o := 0) hself ?_ hroom hcm
  rw [hpl]; omega

theorem RV.slLe {p : Option Addr} {n c : Nat} {u : Value} (h : RV ρ (.slice p n c) u) : ∃ p' c', u = .slice p' n c' ∧ n ≤ c' := by
  cases h with | c h => cases h with | s h => cases h with
    | plain h =>
      refine ⟨_, _, rfl, ?_⟩
      cases p with
      | none => obtain ⟨rfl, rfl⟩ := plain_nil h; exact Nat.le_refl _
      | some q => cases h
    | sl h hc hn hm => exact ⟨_, _, rfl, hn⟩
    | slu h ht hn hm => exact ⟨_, _, rfl, hn⟩
    | slz => exact ⟨_, _, rfl, Nat.le_refl _⟩

/-- the cells of a row that is told -/
theorem cells_mid {cs' pre post : List Value} {b' o s : Nat} {et : TypeId} (ho : w.heap[b']? = some (Cl (pre ++ (cs' ++ post)) et)) : ∀ j u, (cut cs' o s)[j]? = some u → w.cell? ((⟨b', pre.length + o, none⟩ : Addr).add j) = some u := by
  intro j u hj
  rw [add_addr]
  rw [cut_eq] at hj
  have hlt := (List.getElem?_eq_some_iff.1 hj).1
  have hjs : j < s := by simp at hlt; omega
  rw [List.getElem?_take_of_lt hjs, List.getElem?_drop] at hj
  have hlt2 := (List.getElem?_eq_some_iff.1 hj).1
  have := cells_of_heap ho (pre.length + o + j) u (by
    rw [nth_eq, List.getElem?_append_right (by omega), show pre.length + o + j - pre.length = o + j by omega, List.getElem?_append_left hlt2]; exact hj)
  simpa using this

theorem appD_sound [hT : TabC P T] {t t' ty : TypeId} {i : TI} (ht : tk T t = some i) (hlim : M.nx < 1000000) (hW : World.Is w K L ρ M) {x x' y' : Value} {ys ys' : List Value} {n : Nat} (hx : RV ρ x x') (hy : All2 (RS ρ) ys ys')
    (hsrc : AppSrc P t t' i.esize w y' n ys') (h : appD M i x ys n = some (v, M')) : ARun P t t' ty w K L ρ M x' y' v M' := by
  unfold appD at h
  split at h
  · rename_i et hk
    cases hb : ((Nat.beq i.ezero.length i.esize && Nat.blt 0 i.esize) && (Nat.beq ys.length (n * i.esize) && Nat.blt 0 n)) with
    | false => rw [hb] at h; cases h
    | true =>
      rw [hb] at h
      simp only [cond_true] at h
      simp only [Bool.and_eq_true] at hb
      obtain ⟨⟨hez, hep⟩, hyl, h0⟩ := hb
      have hez := Nat.eq_of_beq_eq_true hez
      have hyl := Nat.eq_of_beq_eq_true hyl
      have hep : 0 < i.esize := by simpa using hep
      have h0 : 0 < n := by simpa using h0
      split at h
      · cases hq : (Nat.ble (n * i.ebytes) 140737488355328 && Nat.ble n 16777216) with
        | false => rw [hq] at h; cases h
        | true =>
          rw [hq] at h
          cases h
          simp only [Bool.and_eq_true] at hq
          have hx0 : x' = .slice none 0 0 := by
            cases hx with | c h => cases h with | s h => cases h; rfl
          subst hx0
          exact app_nil ht hk hW hlim hy hyl h0 hez (Nat.le_of_ble_eq_true hq.1) (Nat.le_of_ble_eq_true hq.2) hsrc
      · rename_i b o m cx
        split at h
        · rename_i cs tt opn hblk0
          cases hq : ((Nat.ble ((m + n) * i.ebytes) 140737488355328 && Nat.ble (m + n) 16777216) && (Nat.ble (o + m * i.esize) cs.length && Nat.beq tt et)) with
          | false => rw [hq] at h; cases h
          | true =>
            rw [hq] at h
            simp only [cond_true] at h
            simp only [Bool.and_eq_true] at hq
            obtain ⟨⟨hq1, hq2⟩, hq3, hq4⟩ := hq
            have hq1 := Nat.le_of_ble_eq_true hq1
            have hq2 := Nat.le_of_ble_eq_true hq2
            have hq3 := Nat.le_of_ble_eq_true hq3
            have hq4 := Nat.eq_of_beq_eq_true hq4
            subst hq4
            obtain ⟨ids, C, hM, hw⟩ := hW
            obtain ⟨pp, C', ids', hp, hblk, hrest⟩ := hM.pull hblk0
            cases hblk with
            | @cells _ cs' pre post _ _ b2 tot hρ hc htot hopn =>
            have hs : Sat w K ((b2, Cl (pre ++ (cs' ++ post)) tt) :: (C' ++ L)) := by simpa using hw.perm (hp.append_right L)
            have hkill : World.Is w K L ρ (M.kill b) := ⟨_, _, hrest.kill hlim, hs.drop⟩
            have hWW : World.Is w K L ρ M := ⟨ids, C, hM, hw⟩
            have hxs := cut_R hc o (m * i.esize)
            have hxl : (cut cs o (m * i.esize)).length = m * i.esize := cut_len hq3
            have ho := hs.owned _ (List.mem_cons_self ..)
            cases hu : Nat.ble unk cx with
            | true =>
              rw [hu] at h
              simp only [cond_true] at h
              cases hz : Nat.beq cx (unk + i.esize) with
              | false => rw [hz] at h; cases h
              | true =>
                rw [hz] at h
                have hz := Nat.eq_of_beq_eq_true hz
                cases h
                cases hx with | c hx => cases hx with | s hx => cases hx with
                  | plain h => cases h
                  | sl _ hcc _ _ => rw [hu] at hcc; cases hcc
                  | @slu _ _ _ z c' b3 s3 m3 h3 ht3 hn3 hm3 =>
                    have hzz : z = i.esize := by omega
                    subst hzz
                    rw [h3] at hρ; cases hρ
                    rcases Nat.lt_or_ge c' (m + n) with hlt | hge
                    · exact (app_grow (M := M.kill b) ht hk hkill hlim hxs hxl hy hyl h0 hez hq1 hq2 hlt (cells_mid ho) hsrc).kill
                    · exact app_in ht hk hlim hrest hs hc htot hy hyl hq3 ht3 hge hm3 hsrc
                  | slz =>
                    have e0 : cut cs o (0 * i.esize) = [] := List.eq_nil_of_length_eq_zero (by rw [hxl]; omega)
                    rw [e0]
                    exact (app_grow (M := M.kill b) (xs := []) (xs' := []) ht hk hkill hlim .nil (by simp) hy hyl h0 hez hq1 hq2 (by omega) (fun j u hj => by simp at hj) hsrc).kill
            | false =>
              rw [hu] at h
              simp only [cond_false] at h
              cases hx with | c hx => cases hx with | s hx => cases hx with
                | plain h => cases h
                | slu _ _ _ _ => rw [Nat.ble_eq_true_of_le (Nat.le_add_right _ _)] at hu; cases hu
                | slz => rw [Nat.ble_eq_true_of_le (Nat.le_add_right _ _)] at hu; cases hu
                | @sl _ _ _ _ b3 s3 m3 h3 hcc hn3 hm3 =>
                  have hρ0 := hρ
                  rw [h3] at hρ; cases hρ
                  cases hr : Nat.ble (m + n) cx with
                  | false =>
                    rw [hr] at h
                    cases h
                    have hlt : cx < m + n := by
                      rcases Nat.lt_or_ge cx (m + n) with h | h
                      · exact h
                      · rw [Nat.ble_eq_true_of_le h] at hr; cases hr
                    exact app_grow ht hk hWW hlim hxs hxl hy hyl h0 hez hq1 hq2 hlt (cells_mid ho) hsrc
                  | true =>
                    rw [hr] at h
                    simp only [cond_true] at h
                    have hr := Nat.le_of_ble_eq_true hr
                    cases hf : Nat.ble (o + (m + n) * i.esize) cs.length with
                    | false => rw [hf] at h; cases h
                    | true =>
                      rw [hf] at h
                      cases h
                      have hf := Nat.le_of_ble_eq_true hf
                      rw [Nat.add_mul] at hf
                      obtain ⟨d0, hu0, hk0, _, _, _, he⟩ := entry_spec (hT.all.get ht)
                      have hd1 := kind_slice (hk0.trans hk)
                      rw [hd1] at hu0
                      obtain ⟨⟨j, hj, hjs, hjb, z, hz, hzz⟩, _⟩ := he tt (by rw [hk]; rfl)
                      have hl' : ys'.length = n * i.esize := by rw [← hy.len, hyl]
                      have hcl := hc.len
                      have hone : ∀ u ∈ ys', u.oneCell' = true := List.all_eq_true.1 hy.ones
                      have hrun := src_room (P := P) (w := w) (t := t) (t' := t') (ty := ty) hu0 hj b2 (pre.length + o) m cx (pre ++ (cs' ++ post)).toArray ho (by rw [hjs]; exact hsrc) (by rw [hjs]; exact hl') hone hr (by
                        rw [hjs, hl']; simp only [List.size_toArray, List.length_append]; omega)
                      rw [hjs] at hrun
                      have e1 : ((pre ++ (cs' ++ post)).toArray.toList.take (pre.length + o + m * i.esize) ++ ys' ++ (pre ++ (cs' ++ post)).toArray.toList.drop (pre.length + o + m * i.esize + ys'.length)) = pre ++ ((cs'.take (o + m * i.esize) ++ (ys' ++ cs'.drop (o + (m + n) * i.esize))) ++ post) := by
                        simp only [List.toList_toArray]
                        rw [show pre.length + o + m * i.esize = pre.length + (o + m * i.esize) by omega, List.take_append, List.take_of_length_le (by omega), Nat.add_sub_cancel_left, List.take_append_of_le_length (by omega), hl', List.drop_append, List.drop_of_length_le (by omega : pre.length ≤ pre.length + (o + m * i.esize) + n * i.esize), show pre.length + (o + m * i.esize) + n * i.esize - pre.length = o + (m + n) * i.esize by rw [Nat.add_mul]; omega, List.drop_append_of_le_length (by rw [Nat.add_mul]; omega)]
                        simp
                      rw [e1] at hrun
                      have hset := Sat.setRow (cs' := pre ++ ((cs'.take (o + m * i.esize) ++ (ys' ++ cs'.drop (o + (m + n) * i.esize))) ++ post)) hs
                      refine ⟨_, _, ρ, hrun, .same (Nat.le_refl _), .c (.s (.sl h3 hcc hr hm3)), _, _, hrest.set hlim (fun _ _ h => h) hM.low (.cells (post := post) hρ0 ((hc.take _).append (hy.append (hc.drop _))) ?_ hopn), hset⟩
                      rw [← htot]
                      simp only [List.length_append, List.length_take, List.length_drop, hl', Nat.add_mul]
                      omega
        · cases h
      · cases h
  · cases h

theorem opm_append [hT : TabC P T] {args : Array Operand} {ts : Array TypeId} (hlim : M.nx < 1000000) (hS : SubT tab T) (ha : Fits N a σ) (hE : EvR ρ e σ) (hW : World.Is w K L ρ M) (h : opm tab zt call (.call ⟨.builtin .append, args, ts⟩) e M = some (v, M')) : MRun P a (.call ⟨.builtin .append, args, ts⟩) w K L ρ M v M' := by
  simp only [opm, opmLoad, opmStore, opmBuildSlice, opmMakeSlice, opmUpdate, opmInsert, opmLookup, opmAppend, opmClear, opmCopy, opmText] at h
  split at h
  · rename_i x y t t' hxs hts
    have ea : args = #[x, y] := by apply Array.ext'; simpa using hxs
    have et0 : ts = #[t, t'] := by apply Array.ext'; simpa using hts
    cases hb : Nat.beq t t' with
    | false =>
      rw [hb] at h
      simp only [cond_false] at h
      subst ea; subst et0
      split at h
      · rename_i p m c s i s2 s3 s4 s5 s6 s7 s8 s9 s0 hx hy ht ht'
        obtain ⟨u1, h1, h2⟩ := hE _ _ hx
        obtain ⟨u2, h3, h4⟩ := hE _ _ hy
        have e4 := h4.string
        subst e4
        have fin : ∀ {u w'}, (Builtin.append_ #[t, t'] 0 #[u1, .string s]).run P w = .ok u w' → ∀ d ty pos af g, (execOp a.eval ⟨d, .call ⟨.builtin .append, #[x, y], #[t, t']⟩, ty, pos, af, g⟩).run P w = .ok (.value u) w' := fun hr d ty pos af g => by
          have hr' : (Builtin.append_ #[t, t'] ty #[u1, .string s]).run P w = .ok _ _ := hr
          simp only [execOp, resolve, invoke, builtin, Sem.run_bind, Sem.run_pure, Result.andThen_ok, List.map_toArray, List.map_cons, List.map_nil, ha.ev h1, ha.ev h3, hr']
        obtain ⟨d9, hu9, hk9, _⟩ := entry_spec (hT.all.get (hS _ _ ht'))
        have := kind_string hk9; subst this
        split at h
        · rename_i et hk
          cases hn : Nat.beq s.data.toList.length 0 with
          | true =>
            rw [hn] at h
            cases h
            have hn : s.size = 0 := Nat.eq_of_beq_eq_true hn
            obtain ⟨p', c', rfl, hle⟩ := h2.slLe
            obtain ⟨d0, hu, hk0, _, _, _, he⟩ := entry_spec (hT.all.get (hS _ _ ht))
            have hd1 := kind_slice (hk0.trans hk)
            rw [hd1] at hu
            obtain ⟨⟨j, hj, hjs, hjb, z, hz, hzz⟩, _⟩ := he et (by rw [hk]; rfl)
            refine ⟨_, w, ρ, fin ?_, .same (Nat.le_refl _), h2, hW⟩
            have hf := Lib.run_firstCells_string (P := P) w j.size s
            have e0 : Lib.strCells s = [] := List.eq_nil_of_length_eq_zero (by rw [Lib.strCells_length, hn])
            rw [hn, e0] at hf
            cases p' <;> simp [Builtin.append_, run_underlying hu, run_underlying hu9, sizeOf, typeInfo, hj, Builtin.lenOf, hn, hle, hf, storeCells]
          | false =>
            rw [hn] at h
            simp only [cond_false] at h
            cases hq : Nat.beq i.esize 1 with
            | false => rw [hq] at h; cases h
            | true =>
              rw [hq] at h
              simp only [cond_true] at h
              have hq := Nat.eq_of_beq_eq_true hq
              have hpl : All2 (RS ρ) (bytesV s) (Lib.strCells s) := plains_R (l := bytesV s) (by
                unfold bytesV
                rw [List.all_map]
                exact List.all_eq_true.2 fun b _ => rfl)
              obtain ⟨u, w', ρ', h6, h7, h8, h9⟩ := appD_sound (P := P) (t' := t') (ty := 0) (y' := .string s) (hS _ _ ht) hlim hW h2 hpl (.str hu9 hq) h
              exact ⟨u, w', ρ', fin h6, h7, h8, h9⟩
        · cases h
      · cases h
    | true =>
      rw [hb] at h
      have hb := Nat.eq_of_beq_eq_true hb
      subst hb
      simp only [cond_true] at h
      subst ea; subst et0
      split at h
      · rename_i p m c q n d i hx hy ht
        obtain ⟨u1, h1, h2⟩ := hE _ _ hx
        obtain ⟨u2, h3, h4⟩ := hE _ _ hy
        have fin : ∀ {u w'}, (Builtin.append_ #[t, t] 0 #[u1, u2]).run P w = .ok u w' → ∀ d ty pos af g, (execOp a.eval ⟨d, .call ⟨.builtin .append, #[x, y], #[t, t]⟩, ty, pos, af, g⟩).run P w = .ok (.value u) w' := fun hr d ty pos af g => by
          have hr' : (Builtin.append_ #[t, t] ty #[u1, u2]).run P w = .ok _ _ := hr
          simp only [execOp, resolve, invoke, builtin, Sem.run_bind, Sem.run_pure, Result.andThen_ok, List.map_toArray, List.map_cons, List.map_nil, ha.ev h1, ha.ev h3, hr']
        split at h
        · rename_i et hk
          cases hn : Nat.beq n 0 with
          | true =>
            rw [hn] at h
            cases h
            have hn := Nat.eq_of_beq_eq_true hn
            subst hn
            obtain ⟨p', c', rfl, hle⟩ := h2.slLe
            obtain ⟨q', d', rfl, _⟩ := h4.slLe
            obtain ⟨d0, hu, hk0, _, _, _, he⟩ := entry_spec (hT.all.get (hS _ _ ht))
            have hd1 := kind_slice (hk0.trans hk)
            rw [hd1] at hu
            obtain ⟨⟨j, hj, hjs, hjb, z, hz, hzz⟩, _⟩ := he et (by rw [hk]; rfl)
            refine ⟨_, w, ρ, fin ?_, .same (Nat.le_refl _), h2, hW⟩
            cases p' <;> cases q' <;> simp [Builtin.append_, run_underlying hu, sizeOf, typeInfo, hj, Builtin.lenOf, Builtin.firstCells, loadCells, loadCellsFrom, hle, storeCells]
          | false =>
            rw [hn] at h
            simp only [cond_false] at h
            split at h
            · rename_i b o
              split at h
              · rename_i cs tt opn hblk0
                obtain ⟨ids, C, hM, hw⟩ := hW
                obtain ⟨pp, C', ids', hp, hblk, hrest⟩ := hM.pull hblk0
                cases hblk with
                | @cells _ cs' pre post _ _ b2 tot hρ hc htot =>
                have hs : Sat w K ((b2, Cl (pre ++ (cs' ++ post)) tt) :: (C' ++ L)) := by simpa using hw.perm (hp.append_right L)
                obtain ⟨b3, o3, d', rfl, hle, hlk⟩ := h4.sl
                rcases hlk with h0 | ⟨s3, m3, h5, rfl⟩
                · subst h0; cases hn
                · rw [h5] at hρ; cases hρ
                  obtain ⟨u, w', ρ', h6, h7, h8, h9⟩ := appD_sound (P := P) (t' := t) (ty := 0) (y' := .slice (some ⟨b2, pre.length + o, none⟩) n d') (hS _ _ ht) hlim ⟨ids, C, hM, hw⟩ h2 (cut_R hc o (n * i.esize)) (.sl rfl (cells_mid (hs.owned _ (List.mem_cons_self ..)))) h
                  exact ⟨u, w', ρ', fin h6, h7, h8, h9⟩
              · cases h
            · cases h
        · cases h
      · cases h
  · cases h
end
end Go.Ev
