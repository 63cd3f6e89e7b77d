/- What the seat's archives are: thirteen classes, whose methods' jumps, handlers stay in them. -/
import Derived.Test.YtgaldjnnfkdohaaPureSeat
set_option linter.unusedVariables false
set_option linter.unusedSimpArgs false
set_option maxRecDepth 100000
namespace Go.Proofs.Ytgaldjnnfkdohaa
open Go Go.Fw

def MOk (m : api_Method) : Prop := BodyOk m.Code m.Handlers ∧ Nat.ble m.Params.length 20 = true
def MsOk (k : Nat) (l : List api_Method) : Prop := l.length ≤ k ∧ ∀ m ∈ l, m.Abstract = true ∨ MOk m

/-- code that is written out -/
def okB (c : List api_Instr) : Bool := Nat.blt 0 c.length && Nat.ble c.length 100 && c.all fun i => (i.Op != 19 && i.Op != 20) || (Int.decLe 0 i.K).decide && (Int.decLt i.K c.length).decide

theorem MOk.of {m : api_Method} (h : okB m.Code = true) (hh : m.Handlers = []) (hp : Nat.ble m.Params.length 20 = true) : MOk m := by
  simp only [okB, Bool.and_eq_true] at h
  obtain ⟨⟨h1, h2⟩, h3⟩ := h
  have h1' : 0 < m.Code.length := by simpa using h1
  have h2' := Nat.le_of_ble_eq_true h2
  refine ⟨⟨h1', by omega, by rw [hh]; simp, fun i hi hj => ?_, fun x hx => by rw [hh] at hx; cases hx⟩, hp⟩
  have := List.all_eq_true.1 h3 i hi
  simp only [Bool.or_eq_true, Bool.and_eq_true, bne_iff_ne, ne_eq, decide_eq_true_eq] at this
  rcases this with h | h
  · omega
  · exact h

theorem MsOk.nil {k : Nat} : MsOk k [] := ⟨Nat.zero_le _, (fun m h => by cases h)⟩
theorem MsOk.one {m : api_Method} (h : m.Abstract = true ∨ MOk m) : MsOk 1 [m] := ⟨by simp, fun x hx => by simp at hx; subst hx; exact h⟩
theorem MsOk.append {j k : Nat} {l s : List api_Method} (h : MsOk j l) (h' : MsOk k s) : MsOk (j + k) (l ++ s) := by
  refine ⟨by rw [List.length_append]; have := h.1; have := h'.1; omega, fun m hm => ?_⟩
  rcases List.mem_append.1 hm with hm | hm
  · exact h.2 m hm
  · exact h'.2 m hm
theorem MsOk.cons {k : Nat} {l : List api_Method} {m : api_Method} (hm : m.Abstract = true ∨ MOk m) (h : MsOk k l) : MsOk (k + 1) (m :: l) := by
  refine ⟨by rw [List.length_cons]; have := h.1; omega, fun x hx => ?_⟩
  rcases List.mem_cons.1 hx with rfl | hx
  · exact hm
  · exact h.2 x hx
theorem MsOk.mono {j k : Nat} {l : List api_Method} (h : MsOk j l) (hk : j ≤ k) : MsOk k l := ⟨Nat.le_trans h.1 hk, h.2⟩
theorem MsOk.set {k i : Nat} {l : List api_Method} {m : api_Method} (h : MsOk k l) (hm : m.Abstract = true ∨ MOk m) : MsOk k (l.set i m) := by
  refine ⟨by rw [List.length_set]; exact h.1, fun x hx => ?_⟩
  rcases List.mem_or_eq_of_mem_set hx with hx | rfl
  · exact h.2 x hx
  · exact hm

/-- another one may come to a list of methods -/
theorem more_ok {k : Nat} {b : Bool} {l : List api_Method} {x : Option (List api_Method)} (hl : MsOk k l) (h : Ok (MsOk (k + 1)) x) : Ok (MsOk (k + 1)) (bif b then x else some l) :=
  Ok.bif (fun _ => h) (fun _ => Ok.some (hl.mono (by omega)))

theorem push_ok {k : Nat} {l : List api_Method} {m : api_Method} (hl : MsOk k l) (hk : k ≤ 100) (hm : m.Abstract = true ∨ MOk m) : Ok (MsOk (k + 1)) (guardB (roomy l.length 1 128) (some (l ++ ([m] : List api_Method)))) :=
  Ok.guard (roomy_of (by have := hl.1; omega)) (Ok.some (hl.append (MsOk.one hm)))

theorem clinit_ok (s : ByteArray) : Ok (fun m => m.Abstract = true ∨ MOk m) (bonsaiseat_clinit.fn s) := by
  unfold bonsaiseat_clinit.fn
  simp only [bonsaiseat_typ.fn, bonsaiseat_one.fn, bonsaiseat_str.fn, bonsaiseat_method.fn, Option.bind_some]
  exact Ok.some (.inr (MOk.of rfl rfl rfl))

theorem run_ok (s : ByteArray) (n : Int) : Ok (fun m => m.Abstract = true ∨ MOk m) (bonsaiseat_run.fn s n) := by
  unfold bonsaiseat_run.fn
  simp only [bonsaiseat_typ.fn, bonsaiseat_one.fn, bonsaiseat_str.fn, bonsaiseat_num.fn, bonsaiseat_at.fn, bonsaiseat_part.fn, bonsaiseat_method.fn, Option.bind_some]
  refine Ok.bind (P := fun c => okB c = true) ?_ (fun c hc => Ok.some (.inr (MOk.of hc rfl rfl)))
  refine Ok.bif (fun _ => Ok.guard rfl (Ok.some rfl)) (fun _ => Ok.bif (fun _ => Ok.guard rfl (Ok.some rfl)) (fun _ => Ok.some rfl))

/-- classes all of whose methods are so -/
def CsOk (l : List api_Class) : Prop := ∀ c ∈ l, MsOk 20 c.Methods
theorem CsOk.nil : CsOk [] := (fun c h => by cases h)
theorem CsOk.cons {c : api_Class} {l : List api_Class} {k : Nat} (h : MsOk k c.Methods) (hk : k ≤ 20) (hl : CsOk l) : CsOk (c :: l) := fun x hx => by
  rcases List.mem_cons.1 hx with rfl | hx
  · exact h.mono hk
  · exact hl x hx

theorem family_ok (k : Arr4_uint8) (h0 : 0 ≤ k.e0) : Ok (fun l => l.length = 6 ∧ CsOk l) (bonsaiseat_family.fn k) := by
  unfold bonsaiseat_family.fn
  simp only [bonsaiseat_typ.fn, bonsaiseat_ref.fn, bonsaiseat_one.fn, bonsaiseat_str.fn, bonsaiseat_num.fn, bonsaiseat_at.fn, bonsaiseat_part.fn, bonsaiseat_call.fn, bonsaiseat_method.fn, Option.bind_some]
  refine Ok.bind (more_ok (MsOk.one (.inr (MOk.of rfl rfl rfl))) (push_ok (MsOk.one (.inr (MOk.of rfl rfl rfl))) (by omega) (.inl rfl))) fun s1 h1 => ?_
  refine Ok.bind (more_ok h1 (Ok.bind (clinit_ok _) fun _ hc => push_ok h1 (by omega) hc)) fun s2 h2 => ?_
  refine Ok.bind (run_ok _ _) fun x1 r1 => ?_
  refine Ok.bind (more_ok (MsOk.one r1) (Ok.bind (clinit_ok _) fun _ hc => push_ok (MsOk.one r1) (by omega) hc)) fun s3 h3 => ?_
  refine Ok.bind (pick_ok (w8_nn _) (by decide) rfl) fun _ _ => ?_
  refine Ok.bind (more_ok (k := 0) MsOk.nil (Ok.bind (run_ok _ _) fun _ hc => push_ok (k := 0) MsOk.nil (by omega) hc)) fun s4 h4 => ?_
  refine Ok.bind (more_ok h4 (push_ok h4 (by omega) (.inr (MOk.of rfl rfl rfl)))) fun s5 h5 => ?_
  refine Ok.bind (P := fun _ => True) (Ok.bif (fun _ => Ok.some trivial) (fun _ => Ok.some trivial)) fun s6 _ => ?_
  refine Ok.bind (run_ok _ _) fun x2 r2 => ?_
  have two := (MsOk.one r2).append (MsOk.one (m := ⟨⟨#[101, 120, 116, 114, 97]⟩, [], ⟨1, ByteArray.empty⟩, false, false, 1, [⟨4, 0, 0, ByteArray.empty, ByteArray.empty, ByteArray.empty, ByteArray.empty⟩, ⟨26, 0, 0, ByteArray.empty, ⟨#[77, 105, 100]⟩, ⟨#[109]⟩, ByteArray.empty⟩, ⟨39, 0, 0, ByteArray.empty, ByteArray.empty, ByteArray.empty, ByteArray.empty⟩], []⟩) (.inr (MOk.of rfl rfl rfl)))
  refine Ok.bind (more_ok two (push_ok two (by omega) (.inr (MOk.of rfl rfl rfl)))) fun s7 h7 => ?_
  refine Ok.bind (run_ok _ _) fun x3 r3 => ?_
  refine Ok.bind (more_ok (MsOk.one r3) (Ok.bind (clinit_ok _) fun _ hc => push_ok (MsOk.one r3) (by omega) hc)) fun s8 h8 => ?_
  refine Ok.some ⟨rfl, ?_⟩
  exact CsOk.cons h2 (by omega) (CsOk.cons h3 (by omega) (CsOk.cons h5 (by omega) (CsOk.cons (k := 0) MsOk.nil (by omega) (CsOk.cons h7 (by omega) (CsOk.cons h8 (by omega) CsOk.nil)))))

theorem util_ok (n : Int) : Ok (fun c => MsOk 10 c.Methods ∧ ∃ m r, c.Methods = m :: r ∧ MOk m) (bonsaiseat_util.fn n) := by
  unfold bonsaiseat_util.fn
  simp only [bonsaiseat_typ.fn, bonsaiseat_ref.fn, bonsaiseat_one.fn, bonsaiseat_str.fn, bonsaiseat_num.fn, bonsaiseat_at.fn, bonsaiseat_of.fn, bonsaiseat_part.fn, bonsaiseat_call.fn, bonsaiseat_method.fn, Option.bind_some]
  refine Ok.bind (idx_of (by decide) (by simp)) fun x hx => ?_
  have hh : x.Handlers = [] := by have := hx.1; simp at this; rw [← this]
  have hp : Nat.ble x.Params.length 20 = true := by have := hx.1; simp at this; rw [← this]; rfl
  clear hx
  refine Ok.bind (P := fun l => MsOk 9 l ∧ ∃ m r, l = m :: r ∧ MOk m) (Ok.bif (fun _ => ?_) (fun _ => Ok.some ⟨MsOk.set (k := 9) (by repeat (first | exact MsOk.nil | refine MsOk.cons (.inr (MOk.of rfl rfl rfl)) ?_)) (.inr (MOk.of rfl hh hp)), _, _, rfl, MOk.of rfl rfl rfl⟩)) fun s1 h1 => ?_
  · refine Ok.bind (idx_of (by decide) (by simp)) fun y hy => Ok.some ⟨MsOk.set (k := 9) (MsOk.set (k := 9) (by repeat (first | exact MsOk.nil | refine MsOk.cons (.inr (MOk.of rfl rfl rfl)) ?_)) (.inr (MOk.of rfl hh hp))) (.inr (MOk.of rfl ?_ ?_)), _, _, rfl, MOk.of rfl rfl rfl⟩
    · have := hy.1; simp at this; rw [← this]
    · have := hy.1; simp at this; rw [← this]; rfl
  refine Ok.bind (P := fun l => MsOk 10 l ∧ ∃ m r, l = m :: r ∧ MOk m) (Ok.bif (fun _ => Ok.bind (clinit_ok _) fun c hc => Ok.guard (roomy_of (by have := h1.1.1; omega)) (Ok.some ⟨h1.1.append (MsOk.one hc), (by obtain ⟨m, r, e, h⟩ := h1.2; exact ⟨m, r ++ [c], by rw [e]; rfl, h⟩)⟩)) (fun _ => Ok.some ⟨h1.1.mono (by omega), h1.2⟩)) fun s2 h2 => ?_
  exact Ok.some h2

theorem rev_loop (fu m : Nat) (c0 c1 c2 c3 c4 c5 c6 c7 c8 c9 c10 c11 c12 : api_Class) :
    bonsaiseat_Archive.l0 fu (m + 8) [c0, c1, c2, c3, c4, c5, c6, c7, c8, c9, c10, c11, c12] 0 = some [c12, c11, c10, c9, c8, c7, c6, c5, c4, c3, c2, c1, c0] := by kernel_rfl

/-- the first of a class's methods -/
def First (c : api_Class) : Prop := ∃ m r, c.Methods = m :: r ∧ MOk m

structure ArcOk (rev : Bool) (z : api_Archive) : Prop where
  len : z.Classes.length = 13
  all : CsOk z.Classes
  first : ∃ c, z.Classes[0]? = some c ∧ First c
  last : rev = true → ∃ c, z.Classes[12]? = some c ∧ First c

theorem archive_ok (fu : Nat) (hfu : 100 < fu) (k : Arr4_uint8) (h0 : 0 ≤ k.e0) (h3 : 0 ≤ k.e3) (l s : List Int) (hl : l.length ≤ 40) (hw : ∀ y ∈ l, 0 ≤ y) (hs : s.length ≤ 40) (hws : ∀ y ∈ s, 0 ≤ y) :
    Ok (ArcOk (iand .u8 k.e2 4 == 4)) (bonsaiseat_Archive.fn fu k l s) := by
  unfold bonsaiseat_Archive.fn
  simp only [bonsaiseat_typ.fn, bonsaiseat_of.fn, bonsaiseat_one.fn, bonsaiseat_at.fn, bonsaiseat_method.fn, Option.bind_some]
  refine Ok.bind (body_ok fu hfu l hl hw) fun b1 hb1 => ?_
  refine Ok.bind (body_ok fu hfu s hs hws) fun b2 hb2 => ?_
  refine Ok.bind (P := fun ms => MsOk 3 ms ∧ ∃ m r, ms = m :: r ∧ MOk m) (Ok.bif (fun _ => Ok.bind (clinit_ok _) fun c hc => Ok.guard rfl (Ok.some ⟨MsOk.append (j := 2) (k := 1) (MsOk.cons (.inr ⟨hb1, rfl⟩) (MsOk.one (.inr ⟨hb2, rfl⟩))) (MsOk.one hc), _, _, rfl, ⟨hb1, rfl⟩⟩))
    (fun _ => Ok.some ⟨MsOk.cons (k := 2) (.inr ⟨hb1, rfl⟩) (MsOk.mono (MsOk.one (.inr ⟨hb2, rfl⟩)) (by omega)), _, _, rfl, ⟨hb1, rfl⟩⟩)) fun ms hms => ?_
  refine Ok.bind (P := fun js => MsOk 1 js) (Ok.bif (fun _ => Ok.some (MsOk.one (.inl rfl))) (fun _ => Ok.some (MsOk.nil))) fun js hjs => ?_
  refine Ok.bind (pick_ok h3 (by decide) rfl) fun x208 _ => ?_
  refine Ok.bind (P := fun cs => ∃ a b c d e f, cs = [⟨⟨#[77, 97, 105, 110]⟩, ⟨#[79, 98, 106, 101, 99, 116]⟩, [], 1, [], ms⟩, ⟨⟨#[73]⟩, ⟨#[79, 98, 106, 101, 99, 116]⟩, [], 4, [], [⟨⟨#[114, 117, 110]⟩, [], ⟨1, ByteArray.empty⟩, false, true, 0, [], []⟩]⟩, ⟨⟨#[74]⟩, ⟨#[79, 98, 106, 101, 99, 116]⟩, [⟨#[73]⟩], 4, [], js⟩, a, b, c, d, e, f] ∧ CsOk [a, b, c, d, e, f]) ?_ ?_
  · refine Ok.bind (family_ok k h0) ?_
    rintro fam ⟨hlen, hfam⟩
    match fam, hlen with
    | [a, b, c, d, e, f], _ => exact Ok.guard rfl (Ok.some ⟨a, b, c, d, e, f, rfl, hfam⟩)
  rintro _ ⟨a, b, c, d, e, f, rfl, hfam⟩
  refine Ok.bind (util_ok _) ?_
  rintro u ⟨hu, hu1⟩
  refine Ok.guard rfl ?_
  have hall : ∀ c0 c1 c2 c9 c10 c11 : api_Class, MsOk 20 c0.Methods → MsOk 20 c1.Methods → MsOk 20 c2.Methods → MsOk 20 c9.Methods → MsOk 20 c10.Methods → MsOk 20 c11.Methods → CsOk [c0, c1, c2, a, b, c, d, e, f, c9, c10, c11, u] := by
    intro c0 c1 c2 c9 c10 c11 m0 m1 m2 m9 m10 m11 x hx
    simp only [List.mem_cons, List.not_mem_nil, or_false] at hx
    rcases hx with rfl | rfl | rfl | rfl | rfl | rfl | rfl | rfl | rfl | rfl | rfl | rfl | rfl
    all_goals first | assumption | exact hu.mono (by omega) | (refine hfam _ ?_; simp)
  obtain ⟨fu, rfl⟩ : ∃ q, fu = q + 8 := ⟨fu - 8, by omega⟩
  simp only [List.cons_append, List.nil_append]
  rw [rev_loop]
  have H := hall ⟨⟨#[77, 97, 105, 110]⟩, ⟨#[79, 98, 106, 101, 99, 116]⟩, [], 1, [], ms⟩ ⟨⟨#[73]⟩, ⟨#[79, 98, 106, 101, 99, 116]⟩, [], 4, [], [⟨⟨#[114, 117, 110]⟩, [], ⟨1, ByteArray.empty⟩, false, true, 0, [], []⟩]⟩ ⟨⟨#[74]⟩, ⟨#[79, 98, 106, 101, 99, 116]⟩, [⟨#[73]⟩], 4, [], js⟩
    ⟨⟨#[69, 114, 114]⟩, ⟨#[70, 97, 117, 108, 116]⟩, [], x208, [], []⟩ ⟨⟨#[69, 114, 114, 50]⟩, ⟨#[69, 114, 114]⟩, [], 1, [], []⟩ ⟨⟨#[71, 111, 110, 101]⟩, ⟨#[65]⟩, [], 1, [], [⟨⟨#[102]⟩, [⟨1, ByteArray.empty⟩], ⟨1, ByteArray.empty⟩, true, false, 1, [⟨25, 0, 0, ByteArray.empty, ⟨#[71, 111, 110, 101]⟩, ByteArray.empty, ByteArray.empty⟩, ⟨6, 0, 0, ByteArray.empty, ByteArray.empty, ByteArray.empty, ByteArray.empty⟩, ⟨4, 0, 0, ByteArray.empty, ByteArray.empty, ByteArray.empty, ByteArray.empty⟩, ⟨39, 0, 0, ByteArray.empty, ByteArray.empty, ByteArray.empty, ByteArray.empty⟩], []⟩]⟩
    (hms.1.mono (by omega)) ((MsOk.one (.inl rfl)).mono (by omega)) (hjs.mono (by omega)) MsOk.nil MsOk.nil ((MsOk.one (.inr (MOk.of rfl rfl rfl))).mono (by omega))
  refine Ok.bind (P := fun C => ArcOk (iand .u8 k.e2 4 == 4) ⟨C⟩) (Ok.bif (fun hr => Ok.some ?_) (fun hr => Ok.some ?_)) (fun C hC => Ok.some hC)
  · refine ⟨rfl, fun x hx => H x ?_, ⟨_, rfl, hu1⟩, fun _ => ⟨_, rfl, hms.2⟩⟩
    simp only [List.mem_cons, List.not_mem_nil, or_false] at hx ⊢
    rcases hx with h | h | h | h | h | h | h | h | h | h | h | h | h <;> simp [h]
  · refine ⟨rfl, H, ⟨_, rfl, hms.2⟩, fun h => ?_⟩
    rw [hr] at h; cases h

end Go.Proofs.Ytgaldjnnfkdohaa
