/- A small logic of walks: slots as a list, owned blocks, blocks that stay as they are. -/
import Derived.WalkKit
import Derived.Orders
namespace Go.Fw
open Go

abbrev Slots := List (Nat × Value)

/-- what a slot holds -/
def lk : Slots → Nat → Option Value
  | [], _ => none
  | (t, v) :: r, n => bif Nat.beq t n then some v else lk r n

/-- what an operand is -/
def ev (σ : Slots) : Operand → Option Value
  | .tmp t => lk σ t
  | .const v => some v
  | .global g => some (.pointer (some ⟨g, 0, none⟩))
  | .func f => some (.func (.func f) #[] #[])

structure Fits (N : Nat) (a : Act) (σ : Slots) : Prop where
  size : a.tmps.size = N
  defers : a.defers = []
  slot : ∀ t v, lk σ t = some v → a.tmps[t]? = some v

theorem Fits.ev {N : Nat} {a : Act} {σ : Slots} (h : Fits N a σ) {x : Operand} {v : Value} (hx : ev σ x = some v) : a.eval x = v := by
  cases x with
  | tmp t =>
    have h1 := h.slot t v hx
    simp only [Act.eval]
    rw [Array.getD_eq_getD_getElem?, h1]; rfl
  | const c => simpa [Fw.ev, Act.eval] using hx
  | global g => simpa [Fw.ev, Act.eval] using hx
  | func f => simpa [Fw.ev, Act.eval] using hx

theorem Fits.put {N : Nat} {a : Act} {σ : Slots} (h : Fits N a σ) {d : Nat} (hd : Nat.blt d N = true) (v : Value) : Fits N (a.put (some d) v) ((d, v) :: σ) := by
  have hd' : d < N := by simpa [Nat.blt_eq] using hd
  refine ⟨by simp [Act.put, h.size], h.defers, fun t u htu => ?_⟩
  simp only [lk] at htu
  show (a.tmps.setIfInBounds d v)[t]? = some u
  rw [Array.getElem?_setIfInBounds]
  cases hb : Nat.beq d t with
  | true =>
    rw [hb] at htu
    have e : d = t := Nat.eq_of_beq_eq_true hb
    have : v = u := by simpa using htu
    subst this
    simp [e]; rw [h.size]; omega
  | false =>
    rw [hb] at htu
    have e : d ≠ t := Nat.ne_of_beq_eq_false hb
    rw [if_neg e]
    exact h.slot t u (by simpa using htu)

theorem Fits.put_none {N : Nat} {a : Act} {σ : Slots} (h : Fits N a σ) (v : Value) : Fits N (a.put none v) σ := h

/-- forget: another list that says no more -/
theorem Fits.of {N : Nat} {a : Act} {σ τ : Slots} (h : Fits N a σ) (hs : ∀ t v, lk τ t = some v → lk σ t = some v) : Fits N a τ :=
  ⟨h.size, h.defers, fun t v ht => h.slot t v (hs t v ht)⟩

/-- all of τ stands in σ, by looking -/
def within : Slots → Slots → Prop
  | [], _ => True
  | (t, v) :: r, σ => lk σ t = some v ∧ within r σ

theorem within.lk {τ σ : Slots} (h : within τ σ) : ∀ t v, lk τ t = some v → lk σ t = some v := by
  induction τ with
  | nil => intro t v ht; cases ht
  | cons p r ih =>
    obtain ⟨s, u⟩ := p
    intro t v ht
    simp only [Fw.lk] at ht
    cases hb : Nat.beq s t with
    | true => rw [hb] at ht; have := Nat.eq_of_beq_eq_true hb; subst this; simp at ht; subst ht; exact h.1
    | false => rw [hb] at ht; exact ih h.2 t v (by simpa using ht)

/-- K holds in whatever frame fits σ -/
def At (N : Nat) (σ : Slots) (K : Act → Prop) : Prop := ∀ a, Fits N a σ → K a

theorem At.weaken {N : Nat} {σ : Slots} {K : Act → Prop} (τ : Slots) (hs : within τ σ) (h : At N τ K) : At N σ K :=
  fun a ha => h a (ha.of hs.lk)

/-! ### memory -/

/-- what stays as it is: blocks; the streams -/
structure KM where
  at_ : Nat → Option Obj
  os : Os
  tape : Nat → Question → Nat
  output : Array (Nat × ByteArray)

abbrev Chunks := List (Nat × Obj)

structure KM.le (K K' : KM) : Prop where
  at_ : ∀ b x, K.at_ b = some x → K'.at_ b = some x
  os : K'.os = K.os
  tape : K'.tape = K.tape
  output : K'.output = K.output
theorem KM.le.refl (K : KM) : KM.le K K := ⟨fun _ _ h => h, rfl, rfl, rfl⟩
theorem KM.le.trans {K K' K'' : KM} (h : KM.le K K') (h' : KM.le K' K'') : KM.le K K'' :=
  ⟨fun b x hx => h'.at_ b x (h.at_ b x hx), h'.os.trans h.os, h'.tape.trans h.tape, h'.output.trans h.output⟩

/-- what K tells stays as it is; what L lists is owned, block by block -/
structure Sat (w : World) (K : KM) (L : Chunks) : Prop where
  kept : ∀ b x, K.at_ b = some x → w.heap[b]? = some x
  owned : ∀ p ∈ L, w.heap[p.1]? = some p.2
  apart : ∀ p ∈ L, K.at_ p.1 = none
  nodup : (L.map (·.1)).Nodup
  os : w.os = K.os
  tape : w.tape = K.tape
  output : w.output = K.output

theorem Sat.perm {w : World} {K : KM} {L L' : Chunks} (h : Sat w K L) (hp : L.Perm L') : Sat w K L' :=
  ⟨h.kept, fun p hm => h.owned p (hp.mem_iff.2 hm), fun p hm => h.apart p (hp.mem_iff.2 hm), (hp.map _).nodup_iff.1 h.nodup, h.os, h.tape, h.output⟩

theorem Sat.drop {w : World} {K : KM} {p : Nat × Obj} {L : Chunks} (h : Sat w K (p :: L)) : Sat w K L :=
  ⟨h.kept, fun q hq => h.owned q (List.mem_cons_of_mem _ hq), fun q hq => h.apart q (List.mem_cons_of_mem _ hq), (List.nodup_cons.1 h.nodup).2, h.os, h.tape, h.output⟩

/-- the k-th chunk comes to the head -/
theorem Sat.pull {w : World} {K : KM} {L : Chunks} (A : Chunks) (p : Nat × Obj) (B : Chunks) (h : Sat w K L) (e : L = A ++ p :: B) : Sat w K (p :: (A ++ B)) :=
  h.perm (e ▸ List.perm_middle)

theorem Sat.push {w : World} {K : KM} (A : Chunks) {p : Nat × Obj} {B : Chunks} (h : Sat w K (p :: (A ++ B))) : Sat w K (A ++ p :: B) :=
  h.perm List.perm_middle.symm

/-- give a chunk away for good: it stays as it is from here on -/
def KM.with (K : KM) (p : Nat × Obj) : KM := { K with at_ := fun b => if b = p.1 then some p.2 else K.at_ b }

theorem KM.le.with {K : KM} {p : Nat × Obj} (h : K.at_ p.1 = none) : KM.le K (K.with p) := ⟨fun b x hx => by
  simp only [KM.with]; split
  · rename_i e; subst e; rw [h] at hx; cases hx
  · exact hx, rfl, rfl, rfl⟩

theorem KM.with_self (K : KM) (p : Nat × Obj) : (K.with p).at_ p.1 = some p.2 := by simp [KM.with]

theorem Sat.freeze {w : World} {K : KM} {p : Nat × Obj} {L : Chunks} (h : Sat w K (p :: L)) : Sat w (K.with p) L := by
  refine ⟨fun b x hx => ?_, h.drop.owned, fun q hq => ?_, h.drop.nodup, h.os, h.tape, h.output⟩
  · simp only [KM.with] at hx; split at hx
    · rename_i e; subst e; cases hx; exact h.owned p (List.mem_cons_self ..)
    · exact h.kept b x hx
  · simp only [KM.with]; split
    · rename_i e
      have := (List.nodup_cons.1 h.nodup).1
      exact absurd (List.mem_map.2 ⟨q, hq, e⟩) this
    · exact h.drop.apart q hq

theorem Sat.lt {w : World} {K : KM} {L : Chunks} (h : Sat w K L) {b : Nat} {x : Obj} (hk : K.at_ b = some x) : b < w.heap.size :=
  (Array.getElem?_eq_some_iff.1 (h.kept b x hk)).1

theorem Sat.le_apart {w : World} {K K' : KM} {p : Nat × Obj} {L : Chunks} (h : Sat w K' (p :: L)) (hk : KM.le K K') : K.at_ p.1 = none := by
  cases e : K.at_ p.1 with
  | none => rfl
  | some x => have := hk.at_ _ _ e; rw [h.apart p (List.mem_cons_self ..)] at this; cases this

theorem Sat.drew {w : World} {K : KM} {L : Chunks} (h : Sat w K L) : Sat { w with drawn := w.drawn + 1 } K L := ⟨h.kept, h.owned, h.apart, h.nodup, h.os, h.tape, h.output⟩

/-- a new block -/
theorem Sat.alloc {w : World} {K : KM} {L : Chunks} (h : Sat w K L) (o : Obj) : Sat (w.alloc o) K ((w.heap.size, o) :: L) := by
  have hold : ∀ b x, w.heap[b]? = some x → (w.alloc o).heap[b]? = some x := fun b x hb => by
    have hlt := (Array.getElem?_eq_some_iff.1 hb).1
    rw [Go.RowKit.Below.heap_alloc _ _ _ hlt]; exact hb
  have hnew : (w.alloc o).heap[w.heap.size]? = some o := by
    show (w.heap.push o)[w.heap.size]? = some o
    simp
  refine ⟨fun b x hb => hold b x (h.kept b x hb), fun p hp => ?_, fun p hp => ?_, ?_, h.os, h.tape, h.output⟩
  · rcases List.mem_cons.1 hp with rfl | hp
    · exact hnew
    · exact hold _ _ (h.owned p hp)
  · rcases List.mem_cons.1 hp with rfl | hp
    · cases e : K.at_ w.heap.size with
      | none => rfl
      | some x => exact absurd (h.lt e) (Nat.lt_irrefl _)
    · exact h.apart p hp
  · simp only [List.map_cons, List.nodup_cons]
    refine ⟨fun hm => ?_, h.nodup⟩
    obtain ⟨q, hq, e⟩ := List.mem_map.1 hm
    have := (Array.getElem?_eq_some_iff.1 (h.owned q hq)).1
    omega

/-- the object of an owned block turns -/
theorem Sat.turn {w w' : World} {K : KM} {b : Nat} {o o' : Obj} {L : Chunks} (h : Sat w K ((b, o) :: L)) (hs : ∀ k, k ≠ b → w'.heap[k]? = w.heap[k]?) (hb : w'.heap[b]? = some o')
    (h1 : w'.os = w.os) (h2 : w'.tape = w.tape) (h3 : w'.output = w.output) : Sat w' K ((b, o') :: L) := by
  have hn := List.nodup_cons.1 (show (b :: L.map (·.1)).Nodup from h.nodup)
  refine ⟨fun k x hk => ?_, fun p hp => ?_, fun p hp => ?_, ?_, h1.trans h.os, h2.trans h.tape, h3.trans h.output⟩
  · have hne : k ≠ b := by
      rintro rfl
      have := h.apart (k, o) (List.mem_cons_self ..)
      rw [this] at hk; cases hk
    rw [hs k hne]; exact h.kept k x hk
  · rcases List.mem_cons.1 hp with rfl | hp
    · exact hb
    · have hne : p.1 ≠ b := fun e => hn.1 (List.mem_map.2 ⟨p, hp, e⟩)
      rw [hs _ hne]; exact h.owned p (List.mem_cons_of_mem _ hp)
  · rcases List.mem_cons.1 hp with rfl | hp
    · exact h.apart (b, o) (List.mem_cons_self ..)
    · exact h.apart p (List.mem_cons_of_mem _ hp)
  · exact h.nodup

theorem Sat.setCell {w : World} {K : KM} {b off : Nat} {cs : Array Value} {t : TypeId} {fr : Nat × Nat} {L : Chunks} (h : Sat w K ((b, .cells cs t fr) :: L)) (v : Value) :
    Sat (w.setCell ⟨b, off, none⟩ v) K ((b, .cells (cs.setIfInBounds off v) t fr) :: L) := by
  have ho := h.owned _ (List.mem_cons_self ..)
  refine h.turn (fun k hk => Go.RowKit.Below.heap_setCell _ _ _ _ hk) ?_ rfl rfl rfl
  simp only [World.setCell, Array.getElem?_modify, if_true]
  rw [show w.heap[b]? = some (.cells cs t fr) from ho]
  simp

/-- the law's world: all that there is at the begin stays as it is -/
def KM.all (w : World) : KM := ⟨fun b => w.heap[b]?, w.os, w.tape, w.output⟩
theorem Sat.all (w : World) : Sat w (KM.all w) [] := ⟨fun _ _ h => h, fun _ h => (List.not_mem_nil h).elim, fun _ h => (List.not_mem_nil h).elim, List.nodup_nil, rfl, rfl, rfl⟩

theorem Sat.below {w w' : World} {K : KM} {L : Chunks} (h : Sat w' K L) (hk : KM.le (KM.all w) K) : Go.RowKit.Below w.heap.size w w' := by
  refine ⟨h.os.trans hk.os, h.tape.trans hk.tape, h.output.trans hk.output, ?_, fun k hlt => ?_⟩
  · rcases Nat.eq_zero_or_pos w.heap.size with h0 | h0
    · omega
    · have := h.kept _ _ (hk.at_ (w.heap.size - 1) w.heap[w.heap.size - 1] (by show w.heap[w.heap.size - 1]? = _; rw [Array.getElem?_eq_getElem (by omega)]))
      have := (Array.getElem?_eq_some_iff.1 this).1
      omega
  · rw [h.kept _ _ (hk.at_ k w.heap[k] (by simp [KM.all, hlt]))]
    simp [hlt]

end Go.Fw
