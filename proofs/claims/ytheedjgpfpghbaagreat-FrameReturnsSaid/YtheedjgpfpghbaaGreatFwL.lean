/- A small logic of walks: what a law is told, opened. -/
import Derived.Test.YtheedjgpfpghbaaGreatFwM
import Derived.ProofKit
import Derived.OpenShut
set_option linter.unusedVariables false
set_option linter.unusedSimpArgs false
set_option linter.unusedSectionVars false
namespace Go.Fw
open Go

/-- data that a law may be told -/
class GoOpen (P : Program) (t : TypeId) (α : Type) [GoData t α] where
  wf : α → Prop
  opn : ∀ {H : Type} {enc : TypeId × Value → H} {w : World} {sp : Nat → Bool} {hd : Bool} {fuel : Nat} {cs : List Value} {x : DataW H × List MemPlace},
    DataW.trod enc P w 0 sp hd fuel t cs = some x → ∃ a : α, GoData.cells t (KM.all w) a cs ∧ wf a

theorem mapM_some_at {α β : Type} {f : α → Option β} : ∀ {l : List α} {r : List β}, l.mapM f = some r → r.length = l.length ∧ ∀ (i : Nat) (x : α), l[i]? = some x → f x = r[i]? := by
  intro l
  induction l with
  | nil => intro r h; simp at h; subst h; simp
  | cons a l ih =>
    intro r h
    rw [List.mapM_cons] at h
    simp only [Option.bind_eq_bind, Option.bind_eq_some_iff, Option.pure_def, Option.some.injEq] at h
    obtain ⟨b, hb, r', hr, rfl⟩ := h
    obtain ⟨h1, h2⟩ := ih hr
    refine ⟨by simp [h1], fun i x hi => ?_⟩
    cases i with
    | zero => simp at hi; subst hi; simpa using hb
    | succ i => simpa using h2 i x (by simpa using hi)

section
variable {P : Program} {T : Tab} {w : World} {sp : Nat → Bool} {hd : Bool} {e : TypeId} {α : Type} [hG : GoData e α] [hO : GoOpen P e α] {H : Type} {enc : TypeId × Value → H}

theorem add_pos {a : Addr} {n m : Nat} (h : 0 < m) : (a.add n).add m = ⟨a.block, a.off + n + m, none⟩ := by
  unfold Addr.add
  rw [if_neg (by omega)]
  split
  · rename_i h0; subst h0; simp
  · rfl

theorem add_val {a : Addr} (ha : a.spot = none) (n : Nat) : a.add n = ⟨a.block, a.off + n, none⟩ := by
  obtain ⟨b, o, s⟩ := a
  simp only at ha
  subst ha
  exact add_addr b o n

theorem open_sl [hT : TabC P T] {t : TypeId} {i : TI} (ht : tk T t = some i) (hk : i.kind = .slice e) (hs : i.esize = GoData.size e α) (hpos : Nat.blt 0 i.esize = true) {fuel : Nat} {cs : List Value} {x : DataW H × List MemPlace}
    (h : DataW.trod enc P w 0 sp hd fuel t cs = some x) :
    ∃ a cap, ∃ xs : List α, cs = [.slice a xs.length cap] ∧ SlK e (KM.all w) a cap xs ∧ xs.length ≤ maxLen ∧ ∀ y ∈ xs, GoOpen.wf P e y := by
  obtain ⟨d0, hu, hk0, _, _, _, he⟩ := entry_spec (hT.all.get ht)
  have hd1 := kind_slice (hk0.trans hk)
  rw [hd1] at hu
  obtain ⟨⟨j, hj, hjs, _⟩, _⟩ := he e (by rw [hk]; rfl)
  have hc : P.cellsOf e = GoData.size e α := by simp [Program.cellsOf, hj, hjs, hs]
  have hp : 0 < GoData.size e α := by rw [← hs]; simpa using hpos
  rcases DataW.trod_slice hu h with ⟨rfl, _⟩ | ⟨a, len, cap, elems, rest, n, _, rfl, _, _, hlc, hcm, hel, helems, _⟩
  · exact ⟨none, 0, [], rfl, SlK.nil, Nat.zero_le _, fun y hy => by cases hy⟩
  have each : ∀ i, i < len → ∃ cs, (∀ q v, cs[q]? = some v → w.cell? ((a.add (i * GoData.size e α)).add q) = some v) ∧ ∃ y : α, GoData.cells e (KM.all w) y cs ∧ GoOpen.wf P e y := by
    intro i hi
    have h1 := helems i hi
    rw [hc, List.getElem?_eq_getElem (by omega)] at h1
    obtain ⟨cs, hcs, h2⟩ := Option.bind_eq_some_iff.1 h1
    obtain ⟨y, hy, hwf⟩ := hO.opn h2
    refine ⟨cs, fun q v hq => ?_, y, hy, hwf⟩
    unfold World.cells? at hcs
    rw [if_pos (Nat.zero_le _)] at hcs
    obtain ⟨h3, h4⟩ := mapM_some_at hcs
    have hlt : q < GoData.size e α := by
      have := (List.getElem?_eq_some_iff.1 hq).1
      rw [h3] at this; simpa using this
    rw [h4 q q (by simp [hlt]), hq]
  by_cases hl0 : len = 0
  · subst hl0
    exact ⟨some a, cap, [], rfl, SlK.nil, Nat.zero_le _, fun y hy => by cases hy⟩
  have hspot : a.spot = none := by
    obtain ⟨cs, h1, y, hy, _⟩ := each 0 (by omega)
    have hl := GoData.len hy
    have := h1 0 cs[0] (List.getElem?_eq_getElem (by omega))
    simp only [Nat.zero_mul] at this
    rw [show (a.add 0).add 0 = a by simp [Addr.add]] at this
    unfold World.cell? at this
    split at this
    · split at this
      · cases this
      · rename_i hs; simpa using hs
    · cases this
  have build : ∀ k, k ≤ len → ∃ (xs : List α) (l : List Value), xs.length = k ∧ Cat e (KM.all w) xs l ∧ (∀ q v, l[q]? = some v → w.cell? (a.add q) = some v) ∧ ∀ y ∈ xs, GoOpen.wf P e y := by
    intro k
    induction k with
    | zero => intro _; exact ⟨[], [], rfl, rfl, fun q v h => by simp at h, fun y hy => by cases hy⟩
    | succ k ih =>
      intro hk
      obtain ⟨xs, l, h1, h2, h3, h4⟩ := ih (by omega)
      obtain ⟨cs, h5, y, hy, hwf⟩ := each k (by omega)
      refine ⟨xs ++ [y], l ++ cs, by simp [h1], h2.append (Cat.single hy), fun q v hq => ?_, fun z hz => ?_⟩
      · have hll : l.length = k * GoData.size e α := by rw [h2.len, h1]
        by_cases hlt : q < l.length
        · rw [List.getElem?_append_left hlt] at hq; exact h3 q v hq
        · rw [List.getElem?_append_right (by omega)] at hq
          have := h5 _ v hq
          rw [add_val hspot, add_addr] at this
          rw [add_val hspot]
          rw [show a.off + k * GoData.size e α + (q - l.length) = a.off + q by omega] at this
          exact this
      · rcases List.mem_append.1 hz with hz | hz
        · exact h4 z hz
        · simp at hz; subst hz; exact hwf
  obtain ⟨xs, l, h1, h2, h3, h4⟩ := build len (Nat.le_refl _)
  refine ⟨some a, cap, xs, by rw [h1], ⟨by omega, .inr ⟨a.block, a.off, l, by rw [← hspot], h2, ?_⟩⟩, by omega, h4⟩
  have hlen : 0 < l.length := by rw [h2.len, h1]; exact Nat.mul_pos (by omega) hp
  have h0 := h3 0 l[0] (List.getElem?_eq_getElem hlen)
  rw [add_val hspot] at h0
  unfold World.cell? at h0
  split at h0
  · rename_i c t' fr hb
    refine ⟨c, t', fr, hb, fun q v hq => ?_⟩
    rw [nth_eq] at hq
    have := h3 q v hq
    rw [add_val hspot] at this
    unfold World.cell? at this
    simp only at hb
    rw [hb] at this
    simpa using this
  · cases h0

theorem open_arr [hT : TabC P T] {t : TypeId} {i : TI} {n : Nat} (ht : tk T t = some i) (hk : i.kind = .array n e) (hs : i.esize = GoData.size e α) {fuel : Nat} {cs : List Value} {x : DataW H × List MemPlace}
    (h : DataW.trod enc P w 0 sp hd fuel t cs = some x) :
    cs.length = i.size ∧ ∀ q, q < n → ∃ y : α, GoData.cells e (KM.all w) y ((cs.drop (q * GoData.size e α)).take (GoData.size e α)) ∧ GoOpen.wf P e y := by
  obtain ⟨d0, hu, hk0, ⟨jj, hjj, hjjs, _⟩, _, _, he⟩ := entry_spec (hT.all.get ht)
  have hd1 := kind_array (hk0.trans hk)
  rw [hd1] at hu
  obtain ⟨⟨j, hj, hjs, _⟩, _⟩ := he e (by rw [hk]; rfl)
  have hc : P.cellsOf e = GoData.size e α := by simp [Program.cellsOf, hj, hjs, hs]
  obtain ⟨xs, m, _, _, h1, h2, h3⟩ := DataW.trod_array hu h
  refine ⟨by rw [h1]; simp [Program.cellsOf, hjj, hjjs], fun q hq => ?_⟩
  have := h3 q hq
  rw [hc, List.getElem?_eq_getElem (by omega)] at this
  exact hO.opn this

end

theorem open_int' {P : Program} {T : Tab} [hT : TabC P T] {t : TypeId} {i : TI} {k : IntKind} (ht : tk T t = some i) (hk : i.kind = .int k) {H : Type} {enc : TypeId × Value → H} {w : World} {sp : Nat → Bool} {hd : Bool} {fuel : Nat} {cs : List Value} {x : DataW H × List MemPlace}
    (h : DataW.trod enc P w 0 sp hd fuel t cs = some x) : ∃ n : Int, cs = [.int k n] ∧ (Lit.int k n).wf = true := by
  obtain ⟨d0, hu, hk0, _⟩ := entry_spec (hT.all.get ht)
  rw [kind_int (hk0.trans hk)] at hu
  obtain ⟨n, h1, _, h2⟩ := DataW.trod_int hu h
  exact ⟨n, h1, h2⟩

theorem open_bool' {P : Program} {T : Tab} [hT : TabC P T] {t : TypeId} {i : TI} (ht : tk T t = some i) (hk : i.kind = .bool) {H : Type} {enc : TypeId × Value → H} {w : World} {sp : Nat → Bool} {hd : Bool} {fuel : Nat} {cs : List Value} {x : DataW H × List MemPlace}
    (h : DataW.trod enc P w 0 sp hd fuel t cs = some x) : ∃ b : Bool, cs = [.bool b] ∧ True := by
  obtain ⟨d0, hu, hk0, _⟩ := entry_spec (hT.all.get ht)
  rw [kind_bool (hk0.trans hk)] at hu
  obtain ⟨n, h1, _⟩ := DataW.trod_bool hu h
  exact ⟨n, h1, trivial⟩

theorem open_str' {P : Program} {T : Tab} [hT : TabC P T] {t : TypeId} {i : TI} (ht : tk T t = some i) (hk : i.kind = .string) {H : Type} {enc : TypeId × Value → H} {w : World} {sp : Nat → Bool} {hd : Bool} {fuel : Nat} {cs : List Value} {x : DataW H × List MemPlace}
    (h : DataW.trod enc P w 0 sp hd fuel t cs = some x) : ∃ s : ByteArray, cs = [.string s] ∧ s.size ≤ maxLen := by
  obtain ⟨d0, hu, hk0, _⟩ := entry_spec (hT.all.get ht)
  rw [kind_string (hk0.trans hk)] at hu
  obtain ⟨n, h1, _, h2⟩ := DataW.trod_string hu h
  exact ⟨n, h1, h2⟩

theorem cells_of {P : Program} {T : Tab} [hT : TabC P T] {t : TypeId} {i : TI} (ht : tk T t = some i) : P.cellsOf t = i.size := by
  obtain ⟨d0, hu, hk0, ⟨j, hj, hjs, _⟩, _⟩ := entry_spec (hT.all.get ht)
  simp [Program.cellsOf, hj, hjs]

theorem open_strlen {P : Program} {T : Tab} [hT : TabC P T] {t : TypeId} {i : TI} {fs : Array Field} (ht : tk T t = some i) (hu : P.underlying t = some (.struct fs)) {H : Type} {enc : TypeId × Value → H} {w : World} {sp : Nat → Bool} {hd : Bool} {fuel : Nat} {cs : List Value} {x : DataW H × List MemPlace}
    (h : DataW.trod enc P w 0 sp hd fuel t cs = some x) : cs.length = i.size := by
  obtain ⟨xs, n, _, _, h1, _⟩ := DataW.trod_struct hu h
  rw [h1, cells_of ht]

theorem open_fld {P : Program} {T : Tab} [hT : TabC P T] {t ft : TypeId} {j : TI} {fs : Array Field} {α : Type} [GoData ft α] [hO : GoOpen P ft α] (hu : P.underlying t = some (.struct fs)) {H : Type} {enc : TypeId × Value → H} {w : World} {sp : Nat → Bool} {hd : Bool} {fuel : Nat} {cs : List Value} {x : DataW H × List MemPlace}
    (h : DataW.trod enc P w 0 sp hd fuel t cs = some x) (i : Nat) {f : Field} (hf : fs[i]? = some f) (hft : f.type = ft) (ht : tk T ft = some j) : ∃ y : α, GoData.cells ft (KM.all w) y ((cs.drop f.offset).take j.size) ∧ GoOpen.wf P ft y := by
  obtain ⟨xs, n, _, _, h1, h2, h3⟩ := DataW.trod_struct hu h
  have := h3 i f hf
  have hlt : i < xs.length := by rw [h2]; exact (Array.getElem?_eq_some_iff.1 hf).1
  rw [hft, cells_of ht, List.getElem?_eq_getElem hlt] at this
  exact hO.opn this

theorem okWide_arr {P : Program} {w : World} {r : Reach} {b : Nat} {t e : TypeId} {n : Nat} {v : Value} (ht : P.underlying t = some (.array n e)) (h : Value.okWide P w r b t v) : ∃ cs, v = .agg cs := by
  unfold Value.okWide at h
  rw [ht] at h
  obtain ⟨cs, h1, _⟩ := h
  exact ⟨cs, h1⟩

theorem okWide_str {P : Program} {w : World} {r : Reach} {b : Nat} {t : TypeId} {fs : Array Field} {v : Value} (ht : P.underlying t = some (.struct fs)) (h : Value.okWide P w r b t v) : ∃ cs, v = .agg cs := by
  unfold Value.okWide at h
  rw [ht] at h
  obtain ⟨cs, h1, _⟩ := h
  exact ⟨cs, h1⟩

theorem cells_slice {a a' : Option Addr} {n n' c c' : Nat} (h : (Value.slice a n c).cells.toList = [.slice a' n' c']) : a' = a ∧ n = n' ∧ c' = c := by
  cases h; exact ⟨rfl, rfl, rfl⟩

end Go.Fw
