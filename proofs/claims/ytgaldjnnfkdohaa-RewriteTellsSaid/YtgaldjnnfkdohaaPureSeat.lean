/- What the seat's archives are: each body's jumps, handlers stay in it. -/
import Derived.Test.YtgaldjnnfkdohaaFg
import Derived.Test.YtgaldjnnfkdohaaPureBase
set_option linter.unusedVariables false
set_option linter.unusedSimpArgs false
set_option maxRecDepth 100000
namespace Go.Proofs.Ytgaldjnnfkdohaa
open Go Go.Fw

/-- a jump, if it is one, goes no further -/
def JumpTo (n : Nat) (i : api_Instr) : Prop := (i.Op = 19 ∨ i.Op = 20) → 0 ≤ i.K ∧ i.K ≤ n
def HandTo (n : Nat) (x : api_Handler) : Prop := 0 ≤ x.From ∧ x.From ≤ n ∧ 0 ≤ x.To ∧ x.To ≤ n ∧ 0 ≤ x.At ∧ x.At ≤ n

structure BI (m k : Nat) (l : List api_Instr) (h : List api_Handler) : Prop where
  jumps : ∀ i ∈ l, JumpTo l.length i
  hands : ∀ x ∈ h, HandTo l.length x
  len : l.length ≤ m
  hlen : h.length ≤ k

theorem JumpTo.mono {n m : Nat} {i : api_Instr} (h : JumpTo n i) (hm : n ≤ m) : JumpTo m i := fun hj => by have := h hj; omega
theorem HandTo.mono {n m : Nat} {i : api_Handler} (h : HandTo n i) (hm : n ≤ m) : HandTo m i := by
  obtain ⟨h1, h2, h3, h4, h5, h6⟩ := h; exact ⟨h1, by omega, h3, by omega, h5, by omega⟩

theorem BI.mono {m k m' k' : Nat} {l : List api_Instr} {h : List api_Handler} (b : BI m k l h) (hm : m ≤ m') (hk : k ≤ k') : BI m' k' l h :=
  ⟨b.jumps, b.hands, Nat.le_trans b.len hm, Nat.le_trans b.hlen hk⟩

theorem BI.append {m k : Nat} {l s : List api_Instr} {h : List api_Handler} (b : BI m k l h) (hs : ∀ i ∈ s, JumpTo (l.length + s.length) i) {q : Nat} (hq : s.length ≤ q) : BI (m + q) k (l ++ s) h := by
  refine ⟨fun i hi => ?_, fun x hx => ?_, ?_, b.hlen⟩
  · rw [List.length_append]
    rcases List.mem_append.1 hi with hi | hi
    · exact (b.jumps i hi).mono (by omega)
    · exact hs i hi
  · rw [List.length_append]; exact (b.hands x hx).mono (by omega)
  · rw [List.length_append]; have := b.len; omega

theorem add_eq {p : bonsaiseat_builder} {s : List api_Instr} (h : p.l_.length + s.length ≤ 100000) : bonsaiseat_builder_add.fn p s = some (bonsaiseat_builder.mk (p.l_ ++ s) p.h_) := by
  unfold bonsaiseat_builder_add.fn
  rw [roomy_of (by omega)]
  rfl

/-- none of these is a jump -/
theorem plain_seg {s : List api_Instr} {n : Nat} (h : s.all (fun i => i.Op != 19 && i.Op != 20) = true) : ∀ i ∈ s, JumpTo n i := fun i hi hj => by
  have := List.all_eq_true.1 h i hi
  simp only [Bool.and_eq_true, bne_iff_ne, ne_eq] at this
  omega

theorem try_ok {m k : Nat} {p : bonsaiseat_builder} {from_ : Int} {c s : ByteArray} (b : BI m k p.l_ p.h_) (hm : m ≤ 10000) (hk : k ≤ 10000) (h0 : 0 ≤ from_) (h1 : from_ ≤ p.l_.length) :
    Ok (fun r => BI (m + 4) (k + 1) r.l_ r.h_) (bonsaiseat_builder_try.fn p from_ c s) := by
  have hl := b.len; have hh := b.hlen
  unfold bonsaiseat_builder_try.fn
  simp only [bonsaiseat_at.fn, bonsaiseat_one.fn, bonsaiseat_str.fn, Option.bind_some]
  rw [add_eq (by simp; omega)]
  simp only [Option.bind_some]
  rw [add_eq (by simp; omega)]
  simp only [Option.bind_some]
  rw [w64_eq (x := (p.l_.length : Int) + 4) (by omega) (by omega), w64_eq (x := (p.l_.length : Int) + 1) (by omega) (by omega)]
  refine Ok.guard (roomy_of (by omega)) (Ok.some ?_)
  refine ⟨fun i hi => ?_, fun x hx => ?_, ?_, ?_⟩
  · simp only [List.length_append, List.length_cons, List.length_nil]
    rcases List.mem_append.1 hi with hi | hi
    · rcases List.mem_append.1 hi with hi | hi
      · exact (b.jumps i hi).mono (by omega)
      · simp only [List.mem_cons, List.not_mem_nil, or_false] at hi
        subst hi; intro _; exact ⟨by simp only; omega, by simp only; omega⟩
    · exact plain_seg (by rfl) i hi
  · simp only [List.length_append, List.length_cons, List.length_nil]
    rcases List.mem_append.1 hx with hx | hx
    · exact (b.hands x hx).mono (by omega)
    · simp only [List.mem_cons, List.not_mem_nil, or_false] at hx
      subst hx
      refine ⟨?_, ?_, ?_, ?_, ?_, ?_⟩ <;> (simp only; omega)
  · simp only [List.length_append, List.length_cons, List.length_nil]; omega
  · simp only [List.length_append, List.length_cons, List.length_nil]; omega

theorem word_ok {n : Int} (h0 : 0 ≤ n) : Ok (fun _ => True) (bonsaiseat_word.fn n) := by
  unfold bonsaiseat_word.fn
  have := tmod_nn h0 (show (0 : Int) < 5 by decide)
  exact Ok.bind (idx_of this.1 (by simp only [List.length_cons, List.length_nil]; omega)) fun v _ => Ok.some trivial

theorem class_ok {n : Int} (h0 : 0 ≤ n) : Ok (fun _ => True) (bonsaiseat_class.fn n) := by
  unfold bonsaiseat_class.fn
  have := tmod_nn h0 (show (0 : Int) < 4 by decide)
  exact Ok.bind (idx_of this.1 (by simp only [List.length_cons, List.length_nil]; omega)) fun v _ => Ok.some trivial

/-- one that is written out and stands at a place that is reckoned -/
theorem pick_ok {α : Type} {l : List α} {n k : Int} (h0 : 0 ≤ n) (hk : 0 < k) (hl : (l.length : Int) = k) : Ok (fun x => x ∈ l) (idx l (Int.tmod n k)) := by
  have := tmod_nn h0 hk
  exact (idx_of this.1 (by omega)).mono fun v hv => hv.2

theorem w8_nn (n : Int) : 0 ≤ w8 n := by
  unfold w8 IntKind.wrap
  simp only [IntKind.bits, IntKind.signed, Bool.false_and, Bool.false_eq_true, if_false]
  exact Int.emod_nonneg _ (by decide)

/-- what a snippet leaves -/
def After (m k : Nat) (r : List api_Instr × List api_Handler) : Prop := BI (m + 15) (k + 1) r.1 r.2

theorem numbers_ok {m k : Nat} {p : bonsaiseat_builder} {o n : Int} (b : BI m k p.l_ p.h_) (hm : m ≤ 5000) (hk : k ≤ 5000) (h0 : 0 ≤ n) :
    Ok (fun r => (r.1 = false → r.2 = p) ∧ BI (m + 15) (k + 1) r.2.l_ r.2.h_) (bonsaiseat_builder_numbers.fn p o n) := by
  have hl := b.len; have hh := b.hlen
  unfold bonsaiseat_builder_numbers.fn
  simp only [bonsaiseat_at.fn, bonsaiseat_one.fn, bonsaiseat_num.fn, bonsaiseat_str.fn, Option.bind_some]
  refine Ok.lthen (S := fun s => BI (m + 15) (k + 1) s.1 s.2) ?_ (fun s hs => Ok.some ⟨(fun h => by cases h), hs⟩)
  have plain : ∀ {s : List api_Instr}, Nat.ble s.length 11 = true → s.all (fun i => i.Op != 19 && i.Op != 20) = true →
      Ok (LRp (fun s : List api_Instr × List api_Handler => BI (m + 15) (k + 1) s.1 s.2) (fun r : Bool × bonsaiseat_builder => (r.1 = false → r.2 = p) ∧ BI (m + 15) (k + 1) r.2.l_ r.2.h_)) ((bonsaiseat_builder_add.fn p s).bind fun x => some (.brk (x.l_, x.h_))) := by
    intro s hs0 ha
    have hs := Nat.le_of_ble_eq_true hs0
    rw [add_eq (by omega)]
    exact Ok.some ((b.append (plain_seg ha) (q := 11) hs).mono (by omega) (by omega))
  have tried : ∀ {s : List api_Instr} {c t : ByteArray}, Nat.ble s.length 11 = true → s.all (fun i => i.Op != 19 && i.Op != 20) = true →
      Ok (LRp (fun s : List api_Instr × List api_Handler => BI (m + 15) (k + 1) s.1 s.2) (fun r : Bool × bonsaiseat_builder => (r.1 = false → r.2 = p) ∧ BI (m + 15) (k + 1) r.2.l_ r.2.h_))
        ((bonsaiseat_builder_try.fn (bonsaiseat_builder.mk (p.l_ ++ s) p.h_) (p.l_.length : Int) c t).bind fun x => some (.brk (x.l_, x.h_))) := by
    intro s c t hs0 ha
    have hs := Nat.le_of_ble_eq_true hs0
    refine Ok.bind (try_ok (m := m + 11) (k := k) (b.append (plain_seg ha) (q := 11) hs) (by omega) (by omega) (by omega) (by simp only [List.length_append]; omega)) fun v hv => Ok.some ?_
    exact hv.mono (by omega) (by omega)
  refine Ok.bif (fun _ => plain rfl rfl) (fun _ => ?_)
  refine Ok.bif (fun _ => plain rfl rfl) (fun _ => ?_)
  refine Ok.bif (fun _ => plain rfl rfl) (fun _ => ?_)
  refine Ok.bif (fun _ => Ok.bind (word_ok h0) fun _ _ => plain rfl rfl) (fun _ => ?_)
  refine Ok.bif (fun _ => plain rfl rfl) (fun _ => ?_)
  refine Ok.bif (fun _ => plain rfl rfl) (fun _ => ?_)
  refine Ok.bif (fun _ => plain rfl rfl) (fun _ => ?_)
  refine Ok.bif (fun _ => ?_) (fun _ => ?_)
  · refine Ok.bind (P := fun s => ∃ y, (y = 10 ∨ y = 11 ∨ y = 12 ∨ y = 9) ∧ ∃ z, s = (p.l_ ++ [z, ⟨1, w32 (w64 ((w64 (Int.tmod n 7)) - 3)), 0, ByteArray.empty, ByteArray.empty, ByteArray.empty, ByteArray.empty⟩, ⟨y, 0, 0, ByteArray.empty, ByteArray.empty, ByteArray.empty, ByteArray.empty⟩, ⟨5, 0, 0, ByteArray.empty, ByteArray.empty, ByteArray.empty, ByteArray.empty⟩], p.h_) ∧ z.Op = 4) ?_ ?_
    · refine Ok.bind (pick_ok h0 (by decide) rfl) fun y hy => ?_
      rw [add_eq (by simp; omega)]
      exact Ok.some ⟨y, by simpa using hy, _, rfl, rfl⟩
    · rintro s ⟨y, hy, z, rfl, hz⟩
      refine Ok.bind (pick_ok (w8_nn _) (by decide) rfl) fun c _ => ?_
      refine tried rfl ?_
      simp only [List.all_cons, List.all_nil, hz]
      rcases hy with rfl | rfl | rfl | rfl <;> rfl
  refine Ok.bif (fun _ => ?_) (fun _ => ?_)
  · refine Ok.bind (P := fun s : List api_Instr × List api_Handler => BI (m + 15) (k + 1) s.1 s.2) ?_ (fun s hs => ⟨_, rfl, hs⟩)
    refine Ok.bind (pick_ok h0 (by decide) rfl) fun y hy => ?_
    rw [add_eq (by simp; omega)]
    refine Ok.some ((b.append (plain_seg ?_) (q := 11) (by simp)).mono (by omega) (by omega))
    simp only [List.mem_cons, List.not_mem_nil, or_false] at hy
    rcases hy with rfl | rfl <;> rfl
  refine Ok.bif (fun _ => plain rfl rfl) (fun _ => ?_)
  refine Ok.bif (fun _ => plain rfl rfl) (fun _ => ?_)
  refine Ok.bif (fun _ => ?_) (fun _ => ?_)
  · rw [add_eq (by simp; omega)]
    exact tried rfl rfl
  refine Ok.bif (fun _ => plain rfl rfl) (fun _ => ?_)
  refine Ok.bif (fun _ => ?_) (fun _ => ?_)
  · refine Ok.bind (word_ok h0) fun _ _ => ?_
    rw [add_eq (by simp; omega), w64_eq (by omega) (by omega)]
    refine Ok.some ((b.append (fun i hi => ?_) (q := 11) (by simp)).mono (by omega) (by omega))
    simp only [List.mem_cons, List.not_mem_nil, or_false] at hi
    rcases hi with rfl | rfl | rfl | rfl <;> intro hj <;> simp at hj ⊢ <;> omega
  refine Ok.bif (fun _ => ?_) (fun _ => ?_)
  · rw [add_eq (by simp; omega)]
    simp only [Option.bind_some]
    rw [add_eq (by simp; omega)]
    simp only [Option.bind_some]
    rw [w64_eq (x := (p.l_.length : Int) + 10) (by omega) (by omega), w64_eq (x := (p.l_.length : Int) + 3) (by omega) (by omega), w64_eq (x := (p.l_.length : Int) + 11) (by omega) (by omega), w64_eq (x := (p.l_.length : Int) + 2) (by omega) (by omega)]
    refine Ok.bind (idx_of (by omega) (by simp only [List.length_append, List.length_cons, List.length_nil]; omega)) fun x hx => ?_
    rw [add_eq (by simp; omega)]
    refine Ok.some ⟨fun i hi => ?_, fun x hx => ?_, ?_, by simp only; omega⟩
    · simp only [List.length_append, List.length_set, List.length_cons, List.length_nil]
      rcases List.mem_append.1 hi with hi | hi
      · rcases List.mem_or_eq_of_mem_set hi with hi | hi
        · rcases List.mem_append.1 hi with hi | hi
          · rcases List.mem_append.1 hi with hi | hi
            · exact (b.jumps i hi).mono (by omega)
            · exact plain_seg (by rfl) i hi
          · simp only [List.mem_cons, List.not_mem_nil, or_false] at hi
            rcases hi with rfl | rfl | rfl | rfl | rfl | rfl | rfl | rfl <;> intro hj <;> simp at hj ⊢ <;> omega
        · subst hi; intro _; simp only; omega
      · simp only [List.mem_cons, List.not_mem_nil, or_false] at hi
        subst hi; intro _; simp only; omega
    · simp only [List.length_append, List.length_set, List.length_cons, List.length_nil]
      exact (b.hands x hx).mono (by omega)
    · simp only [List.length_append, List.length_set, List.length_cons, List.length_nil]; omega
  refine Ok.bif (fun _ => Ok.bind (word_ok h0) fun _ _ => plain rfl rfl) (fun _ => ?_)
  exact Ok.lesc (Ok.some ⟨fun _ => rfl, b.mono (by omega) (by omega)⟩)


theorem objects_ok {m k : Nat} {p : bonsaiseat_builder} {o n : Int} (b : BI m k p.l_ p.h_) (hm : m ≤ 5000) (hk : k ≤ 5000) (h0 : 0 ≤ n) :
    Ok (fun r => BI (m + 15) (k + 1) r.l_ r.h_) (bonsaiseat_builder_objects.fn p o n) := by
  have hl := b.len; have hh := b.hlen
  unfold bonsaiseat_builder_objects.fn
  simp only [bonsaiseat_at.fn, bonsaiseat_one.fn, bonsaiseat_num.fn, bonsaiseat_str.fn, bonsaiseat_of.fn, bonsaiseat_part.fn, bonsaiseat_call.fn, Option.bind_some]
  have plain : ∀ {s : List api_Instr}, Nat.ble s.length 11 = true → s.all (fun i => i.Op != 19 && i.Op != 20) = true →
      Ok (fun r : bonsaiseat_builder => BI (m + 15) (k + 1) r.l_ r.h_) ((bonsaiseat_builder_add.fn p s).bind fun x => some x) := by
    intro s hs0 ha
    have hs := Nat.le_of_ble_eq_true hs0
    rw [add_eq (by omega)]
    exact Ok.some ((b.append (plain_seg ha) (q := 11) hs).mono (by omega) (by omega))
  have plain2 : ∀ {s : List api_Instr}, Nat.ble s.length 11 = true → s.all (fun i => i.Op != 19 && i.Op != 20) = true →
      Ok (fun r : List api_Instr × List api_Handler => BI (m + 15) (k + 1) r.1 r.2) ((bonsaiseat_builder_add.fn p s).bind fun x => some (x.l_, x.h_)) := by
    intro s hs0 ha
    have hs := Nat.le_of_ble_eq_true hs0
    rw [add_eq (by omega)]
    exact Ok.some ((b.append (plain_seg ha) (q := 11) hs).mono (by omega) (by omega))
  have tried : ∀ {s : List api_Instr} {c t : ByteArray}, Nat.ble s.length 11 = true → s.all (fun i => i.Op != 19 && i.Op != 20) = true →
      Ok (fun r : bonsaiseat_builder => BI (m + 15) (k + 1) r.l_ r.h_)
        ((bonsaiseat_builder_try.fn (bonsaiseat_builder.mk (p.l_ ++ s) p.h_) (p.l_.length : Int) c t).bind fun x => some x) := by
    intro s c t hs0 ha
    have hs := Nat.le_of_ble_eq_true hs0
    refine Ok.bind (try_ok (m := m + 11) (k := k) (b.append (plain_seg ha) (q := 11) hs) (by omega) (by omega) (by omega) (by simp only [List.length_append]; omega)) fun v hv => Ok.some ?_
    exact hv.mono (by omega) (by omega)
  refine Ok.bind (P := fun _ => True) (Ok.bif (fun _ => Ok.some trivial) (fun _ => Ok.some trivial)) fun s _ => ?_
  refine Ok.bif (fun _ => Ok.bind (class_ok h0) fun _ _ => plain rfl rfl) (fun _ => ?_)
  iterate 9 refine Ok.bif (fun _ => (by first | exact plain rfl rfl | (rw [add_eq (by simp; omega)]; exact tried rfl rfl))) (fun _ => ?_)
  refine Ok.bif (fun _ => Ok.bind (P := fun s : List api_Instr × List api_Handler => BI (m + 15) (k + 1) s.1 s.2) (Ok.bind (pick_ok h0 (by decide) rfl) fun _ _ => plain2 rfl rfl) (fun s hs => Ok.some hs)) (fun _ => ?_)
  refine Ok.bif (fun _ => Ok.bind (P := fun s : List api_Instr × List api_Handler => BI (m + 15) (k + 1) s.1 s.2) (Ok.bind (pick_ok h0 (by decide) rfl) fun _ _ => plain2 rfl rfl) (fun s hs => Ok.some hs)) (fun _ => ?_)
  refine Ok.bif (fun _ => plain rfl rfl) (fun _ => ?_)
  refine Ok.bif (fun _ => ?_) (fun _ => ?_)
  · rw [add_eq (by simp; omega)]
    simp only [Option.bind_some]
    exact Ok.bind (pick_ok h0 (by decide) rfl) fun _ _ => tried rfl rfl
  refine Ok.bif (fun _ => plain rfl rfl) (fun _ => ?_)
  refine Ok.bif (fun _ => Ok.bind (pick_ok h0 (by decide) rfl) fun _ _ => plain rfl rfl) (fun _ => ?_)
  refine Ok.bif (fun _ => ?_) (fun _ => ?_)
  · refine Ok.bind (pick_ok h0 (by decide) rfl) fun _ _ => ?_
    rw [add_eq (by simp; omega)]
    simp only [Option.bind_some]
    exact Ok.bind (pick_ok (w8_nn _) (by decide) rfl) fun _ _ => tried rfl rfl
  refine Ok.bif (fun _ => plain rfl rfl) (fun _ => ?_)
  refine Ok.bif (fun _ => ?_) (fun _ => ?_)
  · rw [add_eq (by simp; omega)]
    exact tried rfl rfl
  refine Ok.bif (fun _ => plain rfl rfl) (fun _ => ?_)
  refine Ok.bif (fun _ => ?_) (fun _ => ?_)
  · rw [add_eq (by simp; omega)]
    simp only [Option.bind_some]
    refine Ok.bind (idx_of (by omega) (by simp only [List.length_append, List.length_cons, List.length_nil]; omega)) fun x hx => Ok.some ?_
    have hb := b.append (s := [⟨4, 0, 3, ByteArray.empty, ByteArray.empty, ByteArray.empty, ByteArray.empty⟩, ⟨36, 0, 0, ByteArray.empty, ⟨#[85, 116, 105, 108]⟩, ⟨#[112, 97, 115, 115]⟩, ⟨#[40, 76, 73, 59, 41, 76, 73, 59]⟩⟩, ⟨5, 0, 4, ByteArray.empty, ByteArray.empty, ByteArray.empty, ByteArray.empty⟩]) (plain_seg rfl) (q := 11) (by simp)
    refine ⟨fun i hi => ?_, fun x hx => ?_, ?_, ?_⟩
    · rw [List.length_set]
      rcases List.mem_or_eq_of_mem_set hi with hi | hi
      · exact hb.jumps i hi
      · subst hi; intro hj; simp at hj
    · rw [List.length_set]; exact hb.hands x hx
    · rw [List.length_set]; have := hb.len; omega
    · have := hb.hlen; simp only at this ⊢; omega
  refine Ok.bif (fun _ => ?_) (fun _ => plain rfl rfl)
  refine Ok.bind (pick_ok h0 (by decide) rfl) fun _ _ => ?_
  rw [add_eq (by simp; omega)]
  simp only [Option.bind_some]
  exact Ok.bind (pick_ok h0 (by decide) rfl) fun _ _ => tried rfl rfl

/-- a body: where its jumps, its handlers go -/
structure BodyOk (c : List api_Instr) (h : List api_Handler) : Prop where
  pos : 0 < c.length
  len : c.length ≤ 1000
  hlen : h.length ≤ 1000
  jumps : ∀ i ∈ c, (i.Op = 19 ∨ i.Op = 20) → 0 ≤ i.K ∧ i.K < c.length
  hands : ∀ x ∈ h, 0 ≤ x.From ∧ x.From < c.length ∧ 0 ≤ x.To ∧ x.To ≤ c.length ∧ 0 ≤ x.At ∧ x.At < c.length

theorem body_loop (fu : Nat) (l : List Int) (hl : l.length ≤ 40) (hw : ∀ y ∈ l, 0 ≤ y) : ∀ (d k : Nat) (i : Nat) (c : List api_Instr) (h : List api_Handler) , 41 - i ≤ d → d < k → BI (20 + 17 * i) i c h → i ≤ 41 →
    Ok (fun r => BI 800 60 r.1 r.2) (bonsaiseat_Body.l0 fu l k c h i) := by
  intro d
  induction d with
  | zero =>
    intro k i c h hi hk b hi2
    obtain ⟨k, rfl⟩ : ∃ m, k = m + 1 := ⟨k - 1, by omega⟩
    unfold bonsaiseat_Body.l0
    rw [w64_eq (x := (i : Int) + 1) (by omega) (by omega)]
    refine Ok.bind (P := fun s => s = false) (Ok.bif (fun hc => ?_) (fun _ => Ok.some rfl)) ?_
    · refine Ok.some ?_
      simp only [decide_eq_true_eq, decide_eq_false_iff_not] at hc ⊢
      omega
    · rintro s rfl
      exact Ok.some (b.mono (by omega) (by omega))
  | succ d ih =>
    intro k i c h hi hk b hi2
    obtain ⟨k, rfl⟩ : ∃ m, k = m + 1 := ⟨k - 1, by omega⟩
    unfold bonsaiseat_Body.l0
    rw [w64_eq (x := (i : Int) + 1) (by omega) (by omega), w64_eq (x := (i : Int) + 2) (by omega) (by omega)]
    refine Ok.bind (P := fun s => s = true → ((i : Int) + 1 < l.length ∧ (i : Int) < 40)) (Ok.bif (fun hc => Ok.some ?_) (fun _ => Ok.some (fun h => by cases h))) ?_
    · intro hs
      simp only [decide_eq_true_eq] at hc hs
      exact ⟨hc, hs⟩
    intro s hs
    refine Ok.bif (fun hst => ?_) (fun _ => Ok.some (b.mono (by omega) (by omega)))
    obtain ⟨h1, h2⟩ := hs hst
    have i1 := idx_of (l := l) (i := (i : Int)) (by omega) (by omega)
    have i2 := idx_of (l := l) (i := (i : Int) + 1) (by omega) (by omega)
    refine Ok.bind (P := fun r => BI (20 + 17 * (i + 2)) (i + 2) r.1 r.2) ?_ ?_
    · refine Ok.bind (P := fun r => BI (20 + 17 * i + 30) (i + 2) r.1 r.2) ?_ ?_
      · refine Ok.bind i1 fun x hx => Ok.bind i2 fun y hy => ?_
        refine Ok.bind (numbers_ok b (by omega) (by omega) (hw y hy.2)) ?_
        rintro ⟨r1, r2⟩ ⟨hr1, hr2⟩
        refine Ok.bif (fun hc => ?_) (fun _ => Ok.some (hr2.mono (by omega) (by omega)))
        refine Ok.bind i2 fun y' hy' => ?_
        refine Ok.bind (objects_ok hr2 (by omega) (by omega) (hw y' hy'.2)) fun v hv => Ok.some (hv.mono (by omega) (by omega))
      · intro s hs
        refine Ok.bind i1 fun x hx => ?_
        refine Ok.bif (fun _ => ?_) (fun _ => Ok.some (hs.mono (by omega) (by omega)))
        refine Ok.bind i2 fun y hy => ?_
        simp only [bonsaiseat_num.fn, bonsaiseat_one.fn, Option.bind_some]
        have := hs.len
        rw [add_eq (by simp; omega)]
        exact Ok.some ((hs.append (plain_seg rfl) (q := 4) (by simp)).mono (by omega) (by omega))
    · intro s hs
      have := ih k (i + 2) s.1 s.2 (by omega) (by omega) hs (by omega)
      rw [show (((i + 2 : Nat)) : Int) = (i : Int) + 2 by omega] at this
      exact this

theorem body_ok (fu : Nat) (hfu : 100 < fu) (l : List Int) (hl : l.length ≤ 40) (hw : ∀ y ∈ l, 0 ≤ y) : Ok (fun r => BodyOk r.1 r.2) (bonsaiseat_Body.fn fu l) := by
  unfold bonsaiseat_Body.fn
  simp only [bonsaiseat_at.fn, bonsaiseat_one.fn, bonsaiseat_num.fn, bonsaiseat_str.fn, bonsaiseat_of.fn, Option.bind_some]
  rw [add_eq (by simp)]
  simp only [Option.bind_some]
  have b0 : BI 20 0 ([] : List api_Instr) ([] : List api_Handler) := ⟨(fun i h => by cases h), (fun i h => by cases h), by simp, by simp⟩
  have b1 : BI 20 0 (([] : List api_Instr) ++ [⟨1, w32 1, 0, ByteArray.empty, ByteArray.empty, ByteArray.empty, ByteArray.empty⟩, ⟨5, 0, 0, ByteArray.empty, ByteArray.empty, ByteArray.empty, ByteArray.empty⟩, ⟨2, 0, 0, ⟨#[115]⟩, ByteArray.empty, ByteArray.empty, ByteArray.empty⟩, ⟨5, 0, 1, ByteArray.empty, ByteArray.empty, ByteArray.empty, ByteArray.empty⟩, ⟨1, w32 3, 0, ByteArray.empty, ByteArray.empty, ByteArray.empty, ByteArray.empty⟩, ⟨21, 0, 0, ByteArray.empty, ByteArray.empty, ByteArray.empty, ByteArray.empty⟩, ⟨5, 0, 2, ByteArray.empty, ByteArray.empty, ByteArray.empty, ByteArray.empty⟩, ⟨25, 0, 0, ByteArray.empty, ⟨#[65]⟩, ByteArray.empty, ByteArray.empty⟩, ⟨5, 0, 3, ByteArray.empty, ByteArray.empty, ByteArray.empty, ByteArray.empty⟩, ⟨3, 0, 0, ByteArray.empty, ByteArray.empty, ByteArray.empty, ByteArray.empty⟩, ⟨5, 0, 4, ByteArray.empty, ByteArray.empty, ByteArray.empty, ByteArray.empty⟩]) [] :=
    ⟨plain_seg rfl, (fun i h => by cases h), by simp, by simp⟩
  refine Ok.bind (body_loop fu l hl hw 41 fu 0 _ _ (by omega) (by omega) (b1.mono (by omega) (by omega)) (by omega)) fun s hs => ?_
  have h1 := hs.len
  rw [add_eq (by simp; omega)]
  refine Ok.some ⟨?_, ?_, ?_, ?_, ?_⟩
  · simp
  · simp only [List.length_append, List.length_cons, List.length_nil]; omega
  · have := hs.hlen; simp only; omega
  · intro i hi hj
    simp only [List.length_append, List.length_cons, List.length_nil]
    rcases List.mem_append.1 hi with hi | hi
    · have := hs.jumps i hi hj; omega
    · simp only [List.mem_cons, List.not_mem_nil, or_false] at hi
      subst hi; simp at hj
  · intro x hx
    simp only [List.length_append, List.length_cons, List.length_nil]
    have := hs.hands x hx
    unfold HandTo at this
    omega

end Go.Proofs.Ytgaldjnnfkdohaa
