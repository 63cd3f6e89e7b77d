/- Functions of the program, and their walks: what each reckons, and that its code reckons it. -/
import Derived.Test.YtgaldjnnfkdohaaFb
set_option linter.unusedVariables false
set_option linter.unusedSimpArgs false
set_option maxHeartbeats 0
set_option maxRecDepth 100000
namespace Go.Proofs.Ytgaldjnnfkdohaa
open Go Go.Fw
noncomputable def bod61 : Code := Try.f61.body.getD .skip
theorem isf61 : IsFn Try.prog 61 Try.f61 bod61 := ⟨Try.func61, rfl, by decide⟩
-- 61 (*bonsai/bonsaiseat.builder).numbers
def bonsaiseat_builder_numbers.fn (p1 : bonsaiseat_builder) (p14 : Int) (p15 : Int) : Option (Bool × bonsaiseat_builder) := LR.then (bif p14 == 0 then ((bonsaiseat_at.fn 4 0).bind fun x2430 => (bonsaiseat_one.fn 18).bind fun x2435 => (bonsaiseat_one.fn 41).bind fun x2440 => (bonsaiseat_builder_add.fn p1 [x2430, x2435, x2440]).bind fun x2451 => some (.brk (x2451.l_, x2451.h_))) else (bif p14 == 1 then ((bonsaiseat_at.fn 4 0).bind fun x2467 => (bonsaiseat_num.fn (w64 ((w64 p15) - 100))).bind fun x2472 => (bonsaiseat_one.fn 8).bind fun x2477 => (bonsaiseat_at.fn 5 0).bind fun x2482 => (bonsaiseat_builder_add.fn p1 [x2467, x2472, x2477, x2482]).bind fun x2493 => some (.brk (x2493.l_, x2493.h_))) else (bif p14 == 2 then ((bonsaiseat_one.fn 42).bind fun x2509 => (bonsaiseat_at.fn 5 0).bind fun x2514 => (bonsaiseat_builder_add.fn p1 [x2509, x2514]).bind fun x2525 => some (.brk (x2525.l_, x2525.h_))) else (bif p14 == 3 then ((bonsaiseat_at.fn 4 1).bind fun x2541 => (bonsaiseat_word.fn p15).bind fun x2546 => (bonsaiseat_str.fn x2546).bind fun x2551 => (bonsaiseat_one.fn 16).bind fun x2556 => (bonsaiseat_at.fn 5 1).bind fun x2561 => (bonsaiseat_builder_add.fn p1 [x2541, x2551, x2556, x2561]).bind fun x2572 => some (.brk (x2572.l_, x2572.h_))) else (bif p14 == 4 then ((bonsaiseat_at.fn 4 1).bind fun x2588 => (bonsaiseat_one.fn 41).bind fun x2593 => (bonsaiseat_builder_add.fn p1 [x2588, x2593]).bind fun x2604 => some (.brk (x2604.l_, x2604.h_))) else (bif p14 == 5 then ((bonsaiseat_at.fn 4 2).bind fun x2620 => (bonsaiseat_num.fn (w64 ((w64 (Int.tmod p15 5)) - 1))).bind fun x2625 => (bonsaiseat_at.fn 4 0).bind fun x2630 => (bonsaiseat_one.fn 24).bind fun x2635 => (bonsaiseat_builder_add.fn p1 [x2620, x2625, x2630, x2635]).bind fun x2646 => some (.brk (x2646.l_, x2646.h_))) else (bif p14 == 6 then ((bonsaiseat_at.fn 4 2).bind fun x2662 => (bonsaiseat_num.fn (w64 (Int.tmod p15 4))).bind fun x2667 => (bonsaiseat_one.fn 23).bind fun x2672 => (bonsaiseat_at.fn 5 0).bind fun x2677 => (bonsaiseat_builder_add.fn p1 [x2662, x2667, x2672, x2677]).bind fun x2688 => some (.brk (x2688.l_, x2688.h_))) else (bif p14 == 7 then (((bonsaiseat_at.fn 4 0).bind fun x3223 => (bonsaiseat_num.fn (w64 ((w64 (Int.tmod p15 7)) - 3))).bind fun x3228 => (idx ([10, 11, 12, 9] : List Int) (Int.tmod p15 4)).bind fun x3237 => (bonsaiseat_one.fn x3237).bind fun x3246 => (bonsaiseat_at.fn 5 0).bind fun x3251 => (bonsaiseat_builder_add.fn p1 [x3223, x3228, x3246, x3251]).bind fun x3262 => some (x3262.l_, x3262.h_)).bind fun s3048 => (idx ([(⟨#[90, 101, 114, 111, 70, 97, 117, 108, 116]⟩ : ByteArray), (⟨#[70, 97, 117, 108, 116]⟩ : ByteArray)] : List ByteArray) (Int.tmod (w8 (Int.tdiv p15 4)) 2)).bind fun x3387 => (bonsaiseat_builder_try.fn (bonsaiseat_builder.mk s3048.1 s3048.2) (p1.l_.length : Int) x3387 (⟨#[122, 101, 114, 111]⟩ : ByteArray)).bind fun x3396 => some (.brk (x3396.l_, x3396.h_))) else (bif p14 == 8 then (((bonsaiseat_at.fn 4 0).bind fun x3931 => (bonsaiseat_num.fn (w64 (Int.tmod p15 9))).bind fun x3936 => (idx ([14, 15] : List Int) (Int.tmod p15 2)).bind fun x3945 => (bonsaiseat_one.fn x3945).bind fun x3954 => (bonsaiseat_at.fn 5 0).bind fun x3959 => (bonsaiseat_builder_add.fn p1 [x3931, x3936, x3954, x3959]).bind fun x3970 => some (x3970.l_, x3970.h_)).bind fun s3756 => some (.brk (s3756.1, s3756.2))) else (bif p14 == 9 then ((bonsaiseat_at.fn 4 0).bind fun x4091 => (bonsaiseat_one.fn 13).bind fun x4096 => (bonsaiseat_at.fn 5 0).bind fun x4101 => (bonsaiseat_builder_add.fn p1 [x4091, x4096, x4101]).bind fun x4112 => some (.brk (x4112.l_, x4112.h_))) else (bif p14 == 10 then ((bonsaiseat_at.fn 4 1).bind fun x4128 => (bonsaiseat_one.fn 17).bind fun x4133 => (bonsaiseat_at.fn 5 0).bind fun x4138 => (bonsaiseat_builder_add.fn p1 [x4128, x4133, x4138]).bind fun x4149 => some (.brk (x4149.l_, x4149.h_))) else (bif p14 == 11 then ((bonsaiseat_num.fn (w64 ((w64 (Int.tmod p15 6)) - 1))).bind fun x4165 => (bonsaiseat_one.fn 21).bind fun x4170 => (bonsaiseat_at.fn 5 2).bind fun x4175 => (bonsaiseat_builder_add.fn p1 [x4165, x4170, x4175]).bind fun x4186 => (bonsaiseat_builder_try.fn x4186 (p1.l_.length : Int) (⟨#[83, 105, 122, 101, 70, 97, 117, 108, 116]⟩ : ByteArray) (⟨#[115, 105, 122, 101]⟩ : ByteArray)).bind fun x4202 => some (.brk (x4202.l_, x4202.h_))) else (bif p14 == 12 then ((bonsaiseat_at.fn 4 2).bind fun x4218 => (bonsaiseat_one.fn 22).bind fun x4223 => (bonsaiseat_at.fn 5 0).bind fun x4228 => (bonsaiseat_builder_add.fn p1 [x4218, x4223, x4228]).bind fun x4239 => some (.brk (x4239.l_, x4239.h_))) else (bif p14 == 13 then ((bonsaiseat_at.fn 4 0).bind fun x4255 => (bonsaiseat_at.fn 20 (w64 ((p1.l_.length : Int) + 4))).bind fun x4260 => (bonsaiseat_word.fn p15).bind fun x4265 => (bonsaiseat_str.fn x4265).bind fun x4270 => (bonsaiseat_one.fn 41).bind fun x4275 => (bonsaiseat_builder_add.fn p1 [x4255, x4260, x4270, x4275]).bind fun x4286 => some (.brk (x4286.l_, x4286.h_))) else (bif p14 == 14 then ((bonsaiseat_num.fn (w64 (Int.tmod p15 4))).bind fun x4302 => (bonsaiseat_at.fn 5 5).bind fun x4307 => (bonsaiseat_builder_add.fn p1 [x4302, x4307]).bind fun x4318 => (bonsaiseat_at.fn 4 5).bind fun x4334 => (bonsaiseat_at.fn 20 (w64 ((p1.l_.length : Int) + 10))).bind fun x4339 => (bonsaiseat_str.fn (⟨#[46]⟩ : ByteArray)).bind fun x4344 => (bonsaiseat_one.fn 41).bind fun x4349 => (bonsaiseat_at.fn 4 5).bind fun x4354 => (bonsaiseat_num.fn 1).bind fun x4359 => (bonsaiseat_one.fn 9).bind fun x4364 => (bonsaiseat_at.fn 5 5).bind fun x4369 => (bonsaiseat_builder_add.fn x4318 [x4334, x4339, x4344, x4349, x4354, x4359, x4364, x4369]).bind fun x4380 => (idx x4380.l_ (w64 ((p1.l_.length : Int) + 3))).bind fun x4396 => (bonsaiseat_at.fn 19 (w64 ((p1.l_.length : Int) + 2))).bind fun x4407 => (bonsaiseat_builder_add.fn (bonsaiseat_builder.mk (x4380.l_.set (w64 ((p1.l_.length : Int) + 3) : Int).toNat (api_Instr.mk x4396.Op x4396.N (w64 ((p1.l_.length : Int) + 11)) x4396.S x4396.Class x4396.Name x4396.Desc)) x4380.h_) [x4407]).bind fun x4419 => some (.brk (x4419.l_, x4419.h_))) else (bif p14 == 15 then ((bonsaiseat_word.fn p15).bind fun x4435 => (bonsaiseat_str.fn x4435).bind fun x4440 => (bonsaiseat_one.fn 7).bind fun x4445 => (bonsaiseat_one.fn 16).bind fun x4450 => (bonsaiseat_one.fn 41).bind fun x4455 => (bonsaiseat_builder_add.fn p1 [x4440, x4445, x4450, x4455]).bind fun x4466 => some (.brk (x4466.l_, x4466.h_))) else (LR.esc (some (false, p1))))))))))))))))))) fun s2426 => some (true, (bonsaiseat_builder.mk s2426.1 s2426.2))
theorem bonsaiseat_builder_numbers_spec {K : KM} {p1 : bonsaiseat_builder} {p14 : Int} {p15 : Int} {r : (Bool × bonsaiseat_builder)} {b2 : Nat} {a3 : Option Addr} {c4 : Nat} {a6 : Option Addr} {c7 : Nat} {C10 : Chunks} {C11 : Chunks} (hf : bonsaiseat_builder_numbers.fn p1 p14 p15 = some r) (h5 : OwnS 77 K (.slice a3 p1.l_.length c4) p1.l_ C10) (h8 : OwnS 92 K (.slice a6 p1.h_.length c7) p1.h_ C11) : Sp Try.prog 61 [(.pointer (some ⟨b2, 0, none⟩)), (.int .u8 p14), (.int .u8 p15)] K (flat [[(b2, Cl (vv127 p1 a3 c4 a6 c7) 127)], C10, C11]) (fun K' C v => ∃ (a4482 : Option Addr) (c4483 : Nat) (a4485 : Option Addr) (c4486 : Nat) (C_0 : Chunks) (C_1 : Chunks), v = (.bool r.1) ∧ OwnS 77 K' (.slice a4482 r.2.l_.length c4483) r.2.l_ C_0 ∧ OwnS 92 K' (.slice a4485 r.2.h_.length c4486) r.2.h_ C_1 ∧ C = flat [[(b2, Cl (vv127 r.2 a4482 c4483 a4485 c4486) 127)], C_0, C_1]) := by
  unfold bonsaiseat_builder_numbers.fn at hf
  refine spec_enter isf61 rfl ?_
  intro w L hS
  replace hS : Sat w K (flat [[(b2, Cl (vv127 p1 a3 c4 a6 c7) 127)], C10, C11, L]) := hS.open
  have hle := KM.le.refl K
  unfold bod61 Try.f61
  dsimp only [Option.getD_some, argSlots]
  refine s_seq (s_reg ?_)
  refine s_v rfl rfl rfl ?_
  refine s_nil (qn (s_seq (s_reg ?_)))
  iterate 3 refine s_v rfl rfl rfl ?_
  refine s_ld 0 hS rfl rfl rfl rfl rfl ?_
  iterate 2 refine s_v rfl rfl rfl ?_
  refine s_nil (qn ?_)
  obtain ⟨res2427, hst2428, hm2429⟩ := LR.then_some hf
  refine s_cut (fun τ w => ∃ (s2426 : ((List api_Instr) × (List api_Handler))) (K2415 : KM) (a2417 : Option Addr) (c2418 : Nat) (C2419 : Chunks) (a2422 : Option Addr) (c2423 : Nat) (C2424 : Chunks), res2427 = .brk s2426 ∧ τ = [(0, (.pointer (some ⟨b2, 0, none⟩)))] ∧ KM.le K K2415 ∧ OwnS 77 K2415 (.slice a2417 s2426.1.length c2418) s2426.1 C2419 ∧ OwnS 92 K2415 (.slice a2422 s2426.2.length c2423) s2426.2 C2424 ∧ Sat w K2415 (flat [[(b2, Cl [(.slice a2417 s2426.1.length c2418), (.slice a2422 s2426.2.length c2423)] 127)], C2419, C2424, L])) (fun J hJ => ?_) ?_
  · replace hf := hst2428
    refine s_seq (s_reg ?_)
    refine s_v rfl rfl rfl ?_
    refine s_nil (qn (s_block (s_seq (s_reg ?_))))
    iterate 2 refine s_v rfl rfl rfl ?_
    refine s_nil (qn ?_)
    refine s_if rfl (fun hc => ?_) (fun hc => ?_)
    · replace hf := bif_t hc hf
      refine s_reg ?_
      refine s_v rfl rfl rfl ?_
      obtain ⟨x2430, hx2431, hf⟩ := bs hf
      refine s_call isf51 hS.nilG (bonsaiseat_at_spec hx2431) rfl rfl rfl ?_
      rintro _ K2432 C2434 w hk2433 rfl hS
      replace hS := hS.drop1
      obtain ⟨x2435, hx2436, hf⟩ := bs hf
      refine s_call isf50 hS.nilG (bonsaiseat_one_spec hx2436) rfl rfl rfl ?_
      rintro _ K2437 C2439 w hk2438 rfl hS
      replace hS := hS.drop1
      obtain ⟨x2440, hx2441, hf⟩ := bs hf
      refine s_call isf50 hS.nilG (bonsaiseat_one_spec hx2441) rfl rfl rfl ?_
      rintro _ K2442 C2444 w hk2443 rfl hS
      replace hS := hS.drop1
      refine s_bwc (cs := ((vv77 x2430) ++ ((vv77 x2435) ++ ((vv77 x2440) ++ [])))) hS rfl rfl rfl rfl rfl rfl rfl rfl rfl rfl ?_
      intro b2445 w hS
      have h2447 : OwnS 77 K2442 (.slice (some ⟨b2445, 0, none⟩) 3 3) [x2430, x2435, x2440] [(b2445, Cl ((vv77 x2430) ++ ((vv77 x2435) ++ ((vv77 x2440) ++ []))) 77)] := OwnS.lit ⟨(vv77 x2430), _, rfl, rfl, ⟨(vv77 x2435), _, rfl, rfl, ⟨(vv77 x2440), _, rfl, rfl, rfl⟩⟩⟩ rfl rfl
      obtain ⟨K2448, hk2449, h2450, hS⟩ := h2447.freeze (hS.sel [0, 1, 2, 3, 4] rfl)
      replace hS : Sat w _ (flat [_, _, _, _]) := hS
      obtain ⟨x2451, hx2452, hf⟩ := bs hf
      have hkk0 := ((hk2433.trans hk2438).trans hk2443).trans hk2449
      replace h5 := h5.mono hkk0
      replace h8 := h8.mono hkk0
      refine s_call isf58 (Sat.shut3 hS) (bonsaiseat_builder_add_spec hx2452 h5 h8 h2450) rfl rfl rfl ?_
      rintro _ K2453 _ w hk2454 ⟨a2456, c2457, a2459, c2460, C2463, C2464, rfl, h2458, h2461, rfl⟩ hS
      replace hS := hS.open3
      refine s_nil (qbn (qn ?_))
      have hq := Option.some.inj hf
      subst hq
      have hkk1 := hkk0.trans hk2454
      replace hle := hle.trans hkk1
      refine s_join hJ _ ⟨(x2451.l_, x2451.h_), K2453, a2456, c2457, C2463, a2459, c2460, C2464, rfl, rfl, hle, h2458, h2461, hS⟩ ⟨rfl, trivial⟩
    replace hf := bif_f hc hf
    refine s_seq (s_reg ?_)
    iterate 2 refine s_v rfl rfl rfl ?_
    refine s_nil (qn ?_)
    refine s_if rfl (fun hc => ?_) (fun hc => ?_)
    · replace hf := bif_t hc hf
      refine s_reg ?_
      refine s_v rfl rfl rfl ?_
      obtain ⟨x2467, hx2468, hf⟩ := bs hf
      refine s_call isf51 hS.nilG (bonsaiseat_at_spec hx2468) rfl rfl rfl ?_
      rintro _ K2469 C2471 w hk2470 rfl hS
      replace hS := hS.drop1
      iterate 3 refine s_v rfl rfl rfl ?_
      obtain ⟨x2472, hx2473, hf⟩ := bs hf
      refine s_call isf59 hS.nilG (bonsaiseat_num_spec hx2473) rfl rfl rfl ?_
      rintro _ K2474 C2476 w hk2475 rfl hS
      replace hS := hS.drop1
      obtain ⟨x2477, hx2478, hf⟩ := bs hf
      refine s_call isf50 hS.nilG (bonsaiseat_one_spec hx2478) rfl rfl rfl ?_
      rintro _ K2479 C2481 w hk2480 rfl hS
      replace hS := hS.drop1
      obtain ⟨x2482, hx2483, hf⟩ := bs hf
      refine s_call isf51 hS.nilG (bonsaiseat_at_spec hx2483) rfl rfl rfl ?_
      rintro _ K2484 C2486 w hk2485 rfl hS
      replace hS := hS.drop1
      refine s_bwc (cs := ((vv77 x2467) ++ ((vv77 x2472) ++ ((vv77 x2477) ++ ((vv77 x2482) ++ []))))) hS rfl rfl rfl rfl rfl rfl rfl rfl rfl rfl ?_
      intro b2487 w hS
      have h2489 : OwnS 77 K2484 (.slice (some ⟨b2487, 0, none⟩) 4 4) [x2467, x2472, x2477, x2482] [(b2487, Cl ((vv77 x2467) ++ ((vv77 x2472) ++ ((vv77 x2477) ++ ((vv77 x2482) ++ [])))) 77)] := OwnS.lit ⟨(vv77 x2467), _, rfl, rfl, ⟨(vv77 x2472), _, rfl, rfl, ⟨(vv77 x2477), _, rfl, rfl, ⟨(vv77 x2482), _, rfl, rfl, rfl⟩⟩⟩⟩ rfl rfl
      obtain ⟨K2490, hk2491, h2492, hS⟩ := h2489.freeze (hS.sel [0, 1, 2, 3, 4] rfl)
      replace hS : Sat w _ (flat [_, _, _, _]) := hS
      obtain ⟨x2493, hx2494, hf⟩ := bs hf
      have hkk2 := (((hk2470.trans hk2475).trans hk2480).trans hk2485).trans hk2491
      replace h5 := h5.mono hkk2
      replace h8 := h8.mono hkk2
      refine s_call isf58 (Sat.shut3 hS) (bonsaiseat_builder_add_spec hx2494 h5 h8 h2492) rfl rfl rfl ?_
      rintro _ K2495 _ w hk2496 ⟨a2498, c2499, a2501, c2502, C2505, C2506, rfl, h2500, h2503, rfl⟩ hS
      replace hS := hS.open3
      refine s_nil (qbn (qn ?_))
      have hq := Option.some.inj hf
      subst hq
      have hkk3 := hkk2.trans hk2496
      replace hle := hle.trans hkk3
      refine s_join hJ _ ⟨(x2493.l_, x2493.h_), K2495, a2498, c2499, C2505, a2501, c2502, C2506, rfl, rfl, hle, h2500, h2503, hS⟩ ⟨rfl, trivial⟩
    replace hf := bif_f hc hf
    refine s_seq (s_reg ?_)
    iterate 2 refine s_v rfl rfl rfl ?_
    refine s_nil (qn ?_)
    refine s_if rfl (fun hc => ?_) (fun hc => ?_)
    · replace hf := bif_t hc hf
      refine s_reg ?_
      refine s_v rfl rfl rfl ?_
      obtain ⟨x2509, hx2510, hf⟩ := bs hf
      refine s_call isf50 hS.nilG (bonsaiseat_one_spec hx2510) rfl rfl rfl ?_
      rintro _ K2511 C2513 w hk2512 rfl hS
      replace hS := hS.drop1
      obtain ⟨x2514, hx2515, hf⟩ := bs hf
      refine s_call isf51 hS.nilG (bonsaiseat_at_spec hx2515) rfl rfl rfl ?_
      rintro _ K2516 C2518 w hk2517 rfl hS
      replace hS := hS.drop1
      refine s_bwc (cs := ((vv77 x2509) ++ ((vv77 x2514) ++ []))) hS rfl rfl rfl rfl rfl rfl rfl rfl rfl rfl ?_
      intro b2519 w hS
      have h2521 : OwnS 77 K2516 (.slice (some ⟨b2519, 0, none⟩) 2 2) [x2509, x2514] [(b2519, Cl ((vv77 x2509) ++ ((vv77 x2514) ++ [])) 77)] := OwnS.lit ⟨(vv77 x2509), _, rfl, rfl, ⟨(vv77 x2514), _, rfl, rfl, rfl⟩⟩ rfl rfl
      obtain ⟨K2522, hk2523, h2524, hS⟩ := h2521.freeze (hS.sel [0, 1, 2, 3, 4] rfl)
      replace hS : Sat w _ (flat [_, _, _, _]) := hS
      obtain ⟨x2525, hx2526, hf⟩ := bs hf
      replace h5 := h5.mono ((hk2512.trans hk2517).trans hk2523)
      replace h8 := h8.mono ((hk2512.trans hk2517).trans hk2523)
      refine s_call isf58 (Sat.shut3 hS) (bonsaiseat_builder_add_spec hx2526 h5 h8 h2524) rfl rfl rfl ?_
      rintro _ K2527 _ w hk2528 ⟨a2530, c2531, a2533, c2534, C2537, C2538, rfl, h2532, h2535, rfl⟩ hS
      replace hS := hS.open3
      refine s_nil (qbn (qn ?_))
      have hq := Option.some.inj hf
      subst hq
      have hkk4 := ((hk2512.trans hk2517).trans hk2523).trans hk2528
      replace hle := hle.trans hkk4
      refine s_join hJ _ ⟨(x2525.l_, x2525.h_), K2527, a2530, c2531, C2537, a2533, c2534, C2538, rfl, rfl, hle, h2532, h2535, hS⟩ ⟨rfl, trivial⟩
    replace hf := bif_f hc hf
    refine s_seq (s_reg ?_)
    iterate 2 refine s_v rfl rfl rfl ?_
    refine s_nil (qn ?_)
    refine s_if rfl (fun hc => ?_) (fun hc => ?_)
    · replace hf := bif_t hc hf
      refine s_reg ?_
      refine s_v rfl rfl rfl ?_
      obtain ⟨x2541, hx2542, hf⟩ := bs hf
      refine s_call isf51 hS.nilG (bonsaiseat_at_spec hx2542) rfl rfl rfl ?_
      rintro _ K2543 C2545 w hk2544 rfl hS
      replace hS := hS.drop1
      refine s_v rfl rfl rfl ?_
      obtain ⟨x2546, hx2547, hf⟩ := bs hf
      refine s_call isf67 hS.nilG (bonsaiseat_word_spec hx2547) rfl rfl rfl ?_
      rintro _ K2548 C2550 w hk2549 rfl hS
      replace hS := hS.drop1
      obtain ⟨x2551, hx2552, hf⟩ := bs hf
      refine s_call isf60 hS.nilG (bonsaiseat_str_spec hx2552) rfl rfl rfl ?_
      rintro _ K2553 C2555 w hk2554 rfl hS
      replace hS := hS.drop1
      obtain ⟨x2556, hx2557, hf⟩ := bs hf
      refine s_call isf50 hS.nilG (bonsaiseat_one_spec hx2557) rfl rfl rfl ?_
      rintro _ K2558 C2560 w hk2559 rfl hS
      replace hS := hS.drop1
      obtain ⟨x2561, hx2562, hf⟩ := bs hf
      refine s_call isf51 hS.nilG (bonsaiseat_at_spec hx2562) rfl rfl rfl ?_
      rintro _ K2563 C2565 w hk2564 rfl hS
      replace hS := hS.drop1
      refine s_bwc (cs := ((vv77 x2541) ++ ((vv77 x2551) ++ ((vv77 x2556) ++ ((vv77 x2561) ++ []))))) hS rfl rfl rfl rfl rfl rfl rfl rfl rfl rfl ?_
      intro b2566 w hS
      have h2568 : OwnS 77 K2563 (.slice (some ⟨b2566, 0, none⟩) 4 4) [x2541, x2551, x2556, x2561] [(b2566, Cl ((vv77 x2541) ++ ((vv77 x2551) ++ ((vv77 x2556) ++ ((vv77 x2561) ++ [])))) 77)] := OwnS.lit ⟨(vv77 x2541), _, rfl, rfl, ⟨(vv77 x2551), _, rfl, rfl, ⟨(vv77 x2556), _, rfl, rfl, ⟨(vv77 x2561), _, rfl, rfl, rfl⟩⟩⟩⟩ rfl rfl
      obtain ⟨K2569, hk2570, h2571, hS⟩ := h2568.freeze (hS.sel [0, 1, 2, 3, 4] rfl)
      replace hS : Sat w _ (flat [_, _, _, _]) := hS
      obtain ⟨x2572, hx2573, hf⟩ := bs hf
      have hkk5 := ((((hk2544.trans hk2549).trans hk2554).trans hk2559).trans hk2564).trans hk2570
      replace h5 := h5.mono hkk5
      replace h8 := h8.mono hkk5
      refine s_call isf58 (Sat.shut3 hS) (bonsaiseat_builder_add_spec hx2573 h5 h8 h2571) rfl rfl rfl ?_
      rintro _ K2574 _ w hk2575 ⟨a2577, c2578, a2580, c2581, C2584, C2585, rfl, h2579, h2582, rfl⟩ hS
      replace hS := hS.open3
      refine s_nil (qbn (qn ?_))
      have hq := Option.some.inj hf
      subst hq
      have hkk6 := hkk5.trans hk2575
      replace hle := hle.trans hkk6
      refine s_join hJ _ ⟨(x2572.l_, x2572.h_), K2574, a2577, c2578, C2584, a2580, c2581, C2585, rfl, rfl, hle, h2579, h2582, hS⟩ ⟨rfl, trivial⟩
    replace hf := bif_f hc hf
    refine s_seq (s_reg ?_)
    iterate 2 refine s_v rfl rfl rfl ?_
    refine s_nil (qn ?_)
    refine s_if rfl (fun hc => ?_) (fun hc => ?_)
    · replace hf := bif_t hc hf
      refine s_reg ?_
      refine s_v rfl rfl rfl ?_
      obtain ⟨x2588, hx2589, hf⟩ := bs hf
      refine s_call isf51 hS.nilG (bonsaiseat_at_spec hx2589) rfl rfl rfl ?_
      rintro _ K2590 C2592 w hk2591 rfl hS
      replace hS := hS.drop1
      obtain ⟨x2593, hx2594, hf⟩ := bs hf
      refine s_call isf50 hS.nilG (bonsaiseat_one_spec hx2594) rfl rfl rfl ?_
      rintro _ K2595 C2597 w hk2596 rfl hS
      replace hS := hS.drop1
      refine s_bwc (cs := ((vv77 x2588) ++ ((vv77 x2593) ++ []))) hS rfl rfl rfl rfl rfl rfl rfl rfl rfl rfl ?_
      intro b2598 w hS
      have h2600 : OwnS 77 K2595 (.slice (some ⟨b2598, 0, none⟩) 2 2) [x2588, x2593] [(b2598, Cl ((vv77 x2588) ++ ((vv77 x2593) ++ [])) 77)] := OwnS.lit ⟨(vv77 x2588), _, rfl, rfl, ⟨(vv77 x2593), _, rfl, rfl, rfl⟩⟩ rfl rfl
      obtain ⟨K2601, hk2602, h2603, hS⟩ := h2600.freeze (hS.sel [0, 1, 2, 3, 4] rfl)
      replace hS : Sat w _ (flat [_, _, _, _]) := hS
      obtain ⟨x2604, hx2605, hf⟩ := bs hf
      replace h5 := h5.mono ((hk2591.trans hk2596).trans hk2602)
      replace h8 := h8.mono ((hk2591.trans hk2596).trans hk2602)
      refine s_call isf58 (Sat.shut3 hS) (bonsaiseat_builder_add_spec hx2605 h5 h8 h2603) rfl rfl rfl ?_
      rintro _ K2606 _ w hk2607 ⟨a2609, c2610, a2612, c2613, C2616, C2617, rfl, h2611, h2614, rfl⟩ hS
      replace hS := hS.open3
      refine s_nil (qbn (qn ?_))
      have hq := Option.some.inj hf
      subst hq
      have hkk7 := ((hk2591.trans hk2596).trans hk2602).trans hk2607
      replace hle := hle.trans hkk7
      refine s_join hJ _ ⟨(x2604.l_, x2604.h_), K2606, a2609, c2610, C2616, a2612, c2613, C2617, rfl, rfl, hle, h2611, h2614, hS⟩ ⟨rfl, trivial⟩
    replace hf := bif_f hc hf
    refine s_seq (s_reg ?_)
    iterate 2 refine s_v rfl rfl rfl ?_
    refine s_nil (qn ?_)
    refine s_if rfl (fun hc => ?_) (fun hc => ?_)
    · replace hf := bif_t hc hf
      refine s_reg ?_
      refine s_v rfl rfl rfl ?_
      obtain ⟨x2620, hx2621, hf⟩ := bs hf
      refine s_call isf51 hS.nilG (bonsaiseat_at_spec hx2621) rfl rfl rfl ?_
      rintro _ K2622 C2624 w hk2623 rfl hS
      replace hS := hS.drop1
      iterate 4 refine s_v rfl rfl rfl ?_
      obtain ⟨x2625, hx2626, hf⟩ := bs hf
      refine s_call isf59 hS.nilG (bonsaiseat_num_spec hx2626) rfl rfl rfl ?_
      rintro _ K2627 C2629 w hk2628 rfl hS
      replace hS := hS.drop1
      obtain ⟨x2630, hx2631, hf⟩ := bs hf
      refine s_call isf51 hS.nilG (bonsaiseat_at_spec hx2631) rfl rfl rfl ?_
      rintro _ K2632 C2634 w hk2633 rfl hS
      replace hS := hS.drop1
      obtain ⟨x2635, hx2636, hf⟩ := bs hf
      refine s_call isf50 hS.nilG (bonsaiseat_one_spec hx2636) rfl rfl rfl ?_
      rintro _ K2637 C2639 w hk2638 rfl hS
      replace hS := hS.drop1
      refine s_bwc (cs := ((vv77 x2620) ++ ((vv77 x2625) ++ ((vv77 x2630) ++ ((vv77 x2635) ++ []))))) hS rfl rfl rfl rfl rfl rfl rfl rfl rfl rfl ?_
      intro b2640 w hS
      have h2642 : OwnS 77 K2637 (.slice (some ⟨b2640, 0, none⟩) 4 4) [x2620, x2625, x2630, x2635] [(b2640, Cl ((vv77 x2620) ++ ((vv77 x2625) ++ ((vv77 x2630) ++ ((vv77 x2635) ++ [])))) 77)] := OwnS.lit ⟨(vv77 x2620), _, rfl, rfl, ⟨(vv77 x2625), _, rfl, rfl, ⟨(vv77 x2630), _, rfl, rfl, ⟨(vv77 x2635), _, rfl, rfl, rfl⟩⟩⟩⟩ rfl rfl
      obtain ⟨K2643, hk2644, h2645, hS⟩ := h2642.freeze (hS.sel [0, 1, 2, 3, 4] rfl)
      replace hS : Sat w _ (flat [_, _, _, _]) := hS
      obtain ⟨x2646, hx2647, hf⟩ := bs hf
      have hkk8 := (((hk2623.trans hk2628).trans hk2633).trans hk2638).trans hk2644
      replace h5 := h5.mono hkk8
      replace h8 := h8.mono hkk8
      refine s_call isf58 (Sat.shut3 hS) (bonsaiseat_builder_add_spec hx2647 h5 h8 h2645) rfl rfl rfl ?_
      rintro _ K2648 _ w hk2649 ⟨a2651, c2652, a2654, c2655, C2658, C2659, rfl, h2653, h2656, rfl⟩ hS
      replace hS := hS.open3
      refine s_nil (qbn (qn ?_))
      have hq := Option.some.inj hf
      subst hq
      have hkk9 := hkk8.trans hk2649
      replace hle := hle.trans hkk9
      refine s_join hJ _ ⟨(x2646.l_, x2646.h_), K2648, a2651, c2652, C2658, a2654, c2655, C2659, rfl, rfl, hle, h2653, h2656, hS⟩ ⟨rfl, trivial⟩
    replace hf := bif_f hc hf
    refine s_seq (s_reg ?_)
    iterate 2 refine s_v rfl rfl rfl ?_
    refine s_nil (qn ?_)
    refine s_if rfl (fun hc => ?_) (fun hc => ?_)
    · replace hf := bif_t hc hf
      refine s_reg ?_
      refine s_v rfl rfl rfl ?_
      obtain ⟨x2662, hx2663, hf⟩ := bs hf
      refine s_call isf51 hS.nilG (bonsaiseat_at_spec hx2663) rfl rfl rfl ?_
      rintro _ K2664 C2666 w hk2665 rfl hS
      replace hS := hS.drop1
      iterate 3 refine s_v rfl rfl rfl ?_
      obtain ⟨x2667, hx2668, hf⟩ := bs hf
      refine s_call isf59 hS.nilG (bonsaiseat_num_spec hx2668) rfl rfl rfl ?_
      rintro _ K2669 C2671 w hk2670 rfl hS
      replace hS := hS.drop1
      obtain ⟨x2672, hx2673, hf⟩ := bs hf
      refine s_call isf50 hS.nilG (bonsaiseat_one_spec hx2673) rfl rfl rfl ?_
      rintro _ K2674 C2676 w hk2675 rfl hS
      replace hS := hS.drop1
      obtain ⟨x2677, hx2678, hf⟩ := bs hf
      refine s_call isf51 hS.nilG (bonsaiseat_at_spec hx2678) rfl rfl rfl ?_
      rintro _ K2679 C2681 w hk2680 rfl hS
      replace hS := hS.drop1
      refine s_bwc (cs := ((vv77 x2662) ++ ((vv77 x2667) ++ ((vv77 x2672) ++ ((vv77 x2677) ++ []))))) hS rfl rfl rfl rfl rfl rfl rfl rfl rfl rfl ?_
      intro b2682 w hS
      have h2684 : OwnS 77 K2679 (.slice (some ⟨b2682, 0, none⟩) 4 4) [x2662, x2667, x2672, x2677] [(b2682, Cl ((vv77 x2662) ++ ((vv77 x2667) ++ ((vv77 x2672) ++ ((vv77 x2677) ++ [])))) 77)] := OwnS.lit ⟨(vv77 x2662), _, rfl, rfl, ⟨(vv77 x2667), _, rfl, rfl, ⟨(vv77 x2672), _, rfl, rfl, ⟨(vv77 x2677), _, rfl, rfl, rfl⟩⟩⟩⟩ rfl rfl
      obtain ⟨K2685, hk2686, h2687, hS⟩ := h2684.freeze (hS.sel [0, 1, 2, 3, 4] rfl)
      replace hS : Sat w _ (flat [_, _, _, _]) := hS
      obtain ⟨x2688, hx2689, hf⟩ := bs hf
      have hkk10 := (((hk2665.trans hk2670).trans hk2675).trans hk2680).trans hk2686
      replace h5 := h5.mono hkk10
      replace h8 := h8.mono hkk10
      refine s_call isf58 (Sat.shut3 hS) (bonsaiseat_builder_add_spec hx2689 h5 h8 h2687) rfl rfl rfl ?_
      rintro _ K2690 _ w hk2691 ⟨a2693, c2694, a2696, c2697, C2700, C2701, rfl, h2695, h2698, rfl⟩ hS
      replace hS := hS.open3
      refine s_nil (qbn (qn ?_))
      have hq := Option.some.inj hf
      subst hq
      have hkk11 := hkk10.trans hk2691
      replace hle := hle.trans hkk11
      refine s_join hJ _ ⟨(x2688.l_, x2688.h_), K2690, a2693, c2694, C2700, a2696, c2697, C2701, rfl, rfl, hle, h2695, h2698, hS⟩ ⟨rfl, trivial⟩
    replace hf := bif_f hc hf
    refine s_seq (s_reg ?_)
    iterate 2 refine s_v rfl rfl rfl ?_
    refine s_nil (qn ?_)
    refine s_if rfl (fun hc => ?_) (fun hc => ?_)
    · replace hf := bif_t hc hf
      refine s_seq ?_
      obtain ⟨s3048, hst3049, hf⟩ := bs hf
      refine s_cut1 (fun τ w => ∃ (K3037 : KM) (a3039 : Option Addr) (c3040 : Nat) (C3041 : Chunks) (a3044 : Option Addr) (c3045 : Nat) (C3046 : Chunks), τ = [(0, (.pointer (some ⟨b2, 0, none⟩))), (2, (.int .u8 p15)), (7, (.int .i64 (p1.l_.length : Int)))] ∧ KM.le K K3037 ∧ OwnS 77 K3037 (.slice a3039 s3048.1.length c3040) s3048.1 C3041 ∧ OwnS 92 K3037 (.slice a3044 s3048.2.length c3045) s3048.2 C3046 ∧ Sat w K3037 (flat [[(b2, Cl [(.slice a3039 s3048.1.length c3040), (.slice a3044 s3048.2.length c3045)] 127)], C3041, C3046, L])) (fun J hJ => ?_) ?_
      · replace hf := hst3049
        refine d_start [] [] hS ?_
        intro w hS
        refine d_v 0 (fun _ _ _ _ _ h => h) [] hS rfl rfl rfl (by kernel_rfl) rfl rfl ?_
        refine d_v 2 (fun _ _ _ _ _ h => h) [] hS rfl rfl rfl (by kernel_rfl) rfl rfl ?_
        refine d_v 3 (fun _ _ _ _ _ h => h) [] hS rfl rfl rfl (by kernel_rfl) rfl rfl ?_
        refine d_v 4 (fun _ _ _ _ _ h => h) [] hS rfl rfl rfl (by kernel_rfl) rfl rfl ?_
        refine d_v 5 (fun _ _ _ _ _ h => h) [] hS rfl rfl rfl (by kernel_rfl) rfl rfl ?_
        refine d_v 8 (fun _ _ _ _ _ h => h) [] hS rfl rfl rfl (by kernel_rfl) rfl rfl ?_
        refine d_v 9 (fun _ _ _ _ _ h => h) [] hS rfl rfl rfl (by kernel_rfl) rfl rfl ?_
        refine d_ops [1, 7] (by kernel_rfl) rfl (.cons ⟨rfl, (by kernel_rfl), fun X hX => ?_⟩ (.cons ⟨rfl, (by kernel_rfl), fun X hX => ?_⟩ AllB.nil))
        · have hlq := KM.le.refl K
          obtain ⟨x3223, hx3224, hf⟩ := bs hf
          refine s_call isf51 hS.nilG (bonsaiseat_at_spec hx3224) rfl rfl rfl ?_
          rintro _ K3225 C3227 w hk3226 rfl hS
          replace hS := hS.drop1
          replace hlq := hlq.trans hk3226
          refine d_go [] [] [] [] hX hS hlq rfl rfl trivial ?_
          refine d_ops [6, 7] (by kernel_rfl) rfl (.cons ⟨rfl, (by kernel_rfl), fun X hX => ?_⟩ (.cons ⟨rfl, (by kernel_rfl), fun X hX => ?_⟩ AllB.nil))
          · have hlq := KM.le.refl K3225
            obtain ⟨x3228, hx3229, hf⟩ := bs hf
            refine s_call isf59 hS.nilG (bonsaiseat_num_spec hx3229) rfl rfl rfl ?_
            rintro _ K3230 C3232 w hk3231 rfl hS
            replace hS := hS.drop1
            replace hlq := hlq.trans hk3231
            refine d_go [] [] [] [] hX hS hlq rfl rfl trivial ?_
            refine d_op 7 rfl (by kernel_rfl) (by kernel_rfl) (fun X hX => ?_)
            have hlq := KM.le.refl K3230
            refine s_bwc (cs := [(.int .i64 10), (.int .i64 11), (.int .i64 12), (.int .i64 9)]) hS rfl rfl rfl rfl rfl rfl rfl rfl rfl rfl ?_
            intro b3233 w hS
            refine d_go [] [0] [] [] hX hS hlq rfl rfl trivial ?_
            have h3235 : OwnS 3 K3230 (.slice (some ⟨b3233, 0, none⟩) 4 4) ([10, 11, 12, 9] : List Int) [(b3233, Cl [(.int .i64 10), (.int .i64 11), (.int .i64 12), (.int .i64 9)] 3)] := OwnS.lit ⟨[(.int .i64 10)], _, rfl, rfl, ⟨[(.int .i64 11)], _, rfl, rfl, ⟨[(.int .i64 12)], _, rfl, rfl, ⟨[(.int .i64 9)], _, rfl, rfl, rfl⟩⟩⟩⟩ rfl rfl
            generalize hCg_ : ([(b3233, Cl [(.int .i64 10), (.int .i64 11), (.int .i64 12), (.int .i64 9)] 3)] : Chunks) = C3236 at hS h3235 ⊢
            clear hCg_
            obtain ⟨x3237, hx3238, hf⟩ := bs hf
            refine d_ixo 10 0 (fun _ _ _ _ _ h => h) [0] hS rfl h3235 hx3238 rfl rfl rfl rfl rfl rfl rfl (by kernel_rfl) rfl rfl ?_
            intro b3239 l3240 cs3243 l3241 hcs_ hC3244 hun3242
            obtain rfl := hcs_
            subst hC3244
            have hq3245 := KM.le.refl K3230
            refine d_ldm 11 0 0 (fun _ _ _ _ _ h => h) [0] hS rfl rfl rfl rfl rfl (by kernel_rfl) rfl rfl ?_
            refine d_op 12 rfl (by kernel_rfl) (by kernel_rfl) (fun X hX => ?_)
            have hlq := KM.le.refl K3230
            obtain ⟨x3246, hx3247, hf⟩ := bs hf
            refine s_call isf50 hS.nilG (bonsaiseat_one_spec hx3247) rfl rfl rfl ?_
            rintro _ K3248 C3250 w hk3249 rfl hS
            replace hS := hS.drop1
            replace hlq := hlq.trans hk3249
            refine d_go [0] [0] [] [] hX hS hlq rfl rfl trivial ?_
            refine d_op 13 rfl (by kernel_rfl) (by kernel_rfl) (fun X hX => ?_)
            have hlq := KM.le.refl K3248
            obtain ⟨x3251, hx3252, hf⟩ := bs hf
            refine s_call isf51 hS.nilG (bonsaiseat_at_spec hx3252) rfl rfl rfl ?_
            rintro _ K3253 C3255 w hk3254 rfl hS
            replace hS := hS.drop1
            replace hlq := hlq.trans hk3254
            refine d_go [0] [0] [] [] hX hS hlq rfl rfl trivial ?_
            refine d_op 14 rfl (by kernel_rfl) (by kernel_rfl) (fun X hX => ?_)
            have hlq := KM.le.refl K3253
            refine s_bwc (cs := ((vv77 x3223) ++ ((vv77 x3228) ++ ((vv77 x3246) ++ ((vv77 x3251) ++ []))))) hS rfl rfl rfl rfl rfl rfl rfl rfl rfl rfl ?_
            intro b3256 w hS
            refine d_go [1] [1] [] [] hX hS hlq rfl rfl trivial ?_
            refine d_op 15 rfl (by kernel_rfl) (by kernel_rfl) (fun X hX => ?_)
            have hlq := KM.le.refl K3253
            have h3258 : OwnS 77 K3253 (.slice (some ⟨b3256, 0, none⟩) 4 4) [x3223, x3228, x3246, x3251] [(b3256, Cl ((vv77 x3223) ++ ((vv77 x3228) ++ ((vv77 x3246) ++ ((vv77 x3251) ++ [])))) 77)] := OwnS.lit ⟨(vv77 x3223), _, rfl, rfl, ⟨(vv77 x3228), _, rfl, rfl, ⟨(vv77 x3246), _, rfl, rfl, ⟨(vv77 x3251), _, rfl, rfl, rfl⟩⟩⟩⟩ rfl rfl
            obtain ⟨K3259, hk3260, h3261, hS⟩ := h3258.freeze (hS.sel [0, 1, 2, 3, 4, 5] rfl)
            replace hS : Sat w _ (flat [_, _, _, _, _]) := hS
            obtain ⟨x3262, hx3263, hf⟩ := bs hf
            have hkk12 := (((hk3226.trans hk3231).trans hk3249).trans hk3254).trans hk3260
            replace h5 := h5.mono hkk12
            replace h8 := h8.mono hkk12
            refine s_call isf58 (Sat.shut3 (hS.sel [1, 2, 3, 0, 4] rfl)) (bonsaiseat_builder_add_spec hx3263 h5 h8 h3261) rfl rfl rfl ?_
            rintro _ K3264 _ w hk3265 ⟨a3267, c3268, a3270, c3271, C3274, C3275, rfl, h3269, h3272, rfl⟩ hS
            replace hS := hS.open3
            replace hlq := hlq.trans (hk3260.trans hk3265)
            refine d_go [3] [3] [] [] hX hS hlq rfl rfl trivial ?_
            refine d_end (by kernel_rfl) ?_
            refine qn ?_
            have hq := Option.some.inj hf
            subst hq
            have hkk13 := hkk12.trans hk3265
            replace hle := hle.trans hkk13
            refine s_join hJ _ ⟨K3264, a3267, c3268, C3274, a3270, c3271, C3275, rfl, hle, h3269, h3272, (hS.sel [0, 1, 2, 4] rfl)⟩ ⟨rfl, rfl, rfl, trivial⟩
          obtain ⟨x3228, hx3229, hf⟩ := bs hf
          obtain ⟨x3237, hx3238, hf⟩ := bs hf
          obtain ⟨x3246, hx3247, hf⟩ := bs hf
          obtain ⟨x3251, hx3252, hf⟩ := bs hf
          obtain ⟨x3262, hx3263, hf⟩ := bs hf
          replace hf : ((idx ([10, 11, 12, 9] : List Int) (Int.tmod p15 4)).bind fun x3282 => (bonsaiseat_num.fn (w64 ((w64 (Int.tmod p15 7)) - 3))).bind fun x3291 => (bonsaiseat_one.fn x3282).bind fun x3296 => (bonsaiseat_at.fn 5 0).bind fun x3301 => (bonsaiseat_builder_add.fn p1 [x3223, x3291, x3296, x3301]).bind fun x3312 => some (x3312.l_, x3312.h_)) = _ := Eq.trans (by simp only [hx3229, hx3238, hx3247, hx3252, hx3263, guardB, cond_true, Option.bind_some]) hf
          have hlq := KM.le.refl K3225
          refine s_bwc (cs := [(.int .i64 10), (.int .i64 11), (.int .i64 12), (.int .i64 9)]) hS rfl rfl rfl rfl rfl rfl rfl rfl rfl rfl ?_
          intro b3278 w hS
          refine d_go [] [0] [] [] hX hS hlq rfl rfl trivial ?_
          have h3280 : OwnS 3 K3225 (.slice (some ⟨b3278, 0, none⟩) 4 4) ([10, 11, 12, 9] : List Int) [(b3278, Cl [(.int .i64 10), (.int .i64 11), (.int .i64 12), (.int .i64 9)] 3)] := OwnS.lit ⟨[(.int .i64 10)], _, rfl, rfl, ⟨[(.int .i64 11)], _, rfl, rfl, ⟨[(.int .i64 12)], _, rfl, rfl, ⟨[(.int .i64 9)], _, rfl, rfl, rfl⟩⟩⟩⟩ rfl rfl
          generalize hCg_ : ([(b3278, Cl [(.int .i64 10), (.int .i64 11), (.int .i64 12), (.int .i64 9)] 3)] : Chunks) = C3281 at hS h3280 ⊢
          clear hCg_
          obtain ⟨x3282, hx3283, hf⟩ := bs hf
          refine d_ixo 10 0 (fun _ _ _ _ _ h => h) [0] hS rfl h3280 hx3283 rfl rfl rfl rfl rfl rfl rfl (by kernel_rfl) rfl rfl ?_
          intro b3284 l3285 cs3288 l3286 hcs_ hC3289 hun3287
          obtain rfl := hcs_
          subst hC3289
          have hq3290 := KM.le.refl K3225
          refine d_ldm 11 0 0 (fun _ _ _ _ _ h => h) [0] hS rfl rfl rfl rfl rfl (by kernel_rfl) rfl rfl ?_
          refine d_op 6 rfl (by kernel_rfl) (by kernel_rfl) (fun X hX => ?_)
          have hlq := KM.le.refl K3225
          obtain ⟨x3291, hx3292, hf⟩ := bs hf
          refine s_call isf59 hS.nilG (bonsaiseat_num_spec hx3292) rfl rfl rfl ?_
          rintro _ K3293 C3295 w hk3294 rfl hS
          replace hS := hS.drop1
          replace hlq := hlq.trans hk3294
          refine d_go [0] [0] [] [] hX hS hlq rfl rfl trivial ?_
          refine d_op 12 rfl (by kernel_rfl) (by kernel_rfl) (fun X hX => ?_)
          have hlq := KM.le.refl K3293
          obtain ⟨x3296, hx3297, hf⟩ := bs hf
          refine s_call isf50 hS.nilG (bonsaiseat_one_spec hx3297) rfl rfl rfl ?_
          rintro _ K3298 C3300 w hk3299 rfl hS
          replace hS := hS.drop1
          replace hlq := hlq.trans hk3299
          refine d_go [0] [0] [] [] hX hS hlq rfl rfl trivial ?_
          refine d_op 13 rfl (by kernel_rfl) (by kernel_rfl) (fun X hX => ?_)
          have hlq := KM.le.refl K3298
          obtain ⟨x3301, hx3302, hf⟩ := bs hf
          refine s_call isf51 hS.nilG (bonsaiseat_at_spec hx3302) rfl rfl rfl ?_
          rintro _ K3303 C3305 w hk3304 rfl hS
          replace hS := hS.drop1
          replace hlq := hlq.trans hk3304
          refine d_go [0] [0] [] [] hX hS hlq rfl rfl trivial ?_
          refine d_op 14 rfl (by kernel_rfl) (by kernel_rfl) (fun X hX => ?_)
          have hlq := KM.le.refl K3303
          refine s_bwc (cs := ((vv77 x3223) ++ ((vv77 x3291) ++ ((vv77 x3296) ++ ((vv77 x3301) ++ []))))) hS rfl rfl rfl rfl rfl rfl rfl rfl rfl rfl ?_
          intro b3306 w hS
          refine d_go [1] [1] [] [] hX hS hlq rfl rfl trivial ?_
          refine d_op 15 rfl (by kernel_rfl) (by kernel_rfl) (fun X hX => ?_)
          have hlq := KM.le.refl K3303
          have h3308 : OwnS 77 K3303 (.slice (some ⟨b3306, 0, none⟩) 4 4) [x3223, x3291, x3296, x3301] [(b3306, Cl ((vv77 x3223) ++ ((vv77 x3291) ++ ((vv77 x3296) ++ ((vv77 x3301) ++ [])))) 77)] := OwnS.lit ⟨(vv77 x3223), _, rfl, rfl, ⟨(vv77 x3291), _, rfl, rfl, ⟨(vv77 x3296), _, rfl, rfl, ⟨(vv77 x3301), _, rfl, rfl, rfl⟩⟩⟩⟩ rfl rfl
          obtain ⟨K3309, hk3310, h3311, hS⟩ := h3308.freeze (hS.sel [0, 1, 2, 3, 4, 5] rfl)
          replace hS : Sat w _ (flat [_, _, _, _, _]) := hS
          obtain ⟨x3312, hx3313, hf⟩ := bs hf
          have hkk14 := (((hk3226.trans hk3294).trans hk3299).trans hk3304).trans hk3310
          replace h5 := h5.mono hkk14
          replace h8 := h8.mono hkk14
          refine s_call isf58 (Sat.shut3 (hS.sel [1, 2, 3, 0, 4] rfl)) (bonsaiseat_builder_add_spec hx3313 h5 h8 h3311) rfl rfl rfl ?_
          rintro _ K3314 _ w hk3315 ⟨a3317, c3318, a3320, c3321, C3324, C3325, rfl, h3319, h3322, rfl⟩ hS
          replace hS := hS.open3
          replace hlq := hlq.trans (hk3310.trans hk3315)
          refine d_go [3] [3] [] [] hX hS hlq rfl rfl trivial ?_
          refine d_end (by kernel_rfl) ?_
          refine qn ?_
          have hq := Option.some.inj hf
          subst hq
          have hkk15 := hkk14.trans hk3315
          replace hle := hle.trans hkk15
          refine s_join hJ _ ⟨K3314, a3317, c3318, C3324, a3320, c3321, C3325, rfl, hle, h3319, h3322, (hS.sel [0, 1, 2, 4] rfl)⟩ ⟨rfl, rfl, rfl, trivial⟩
        obtain ⟨x3223, hx3224, hf⟩ := bs hf
        obtain ⟨x3228, hx3229, hf⟩ := bs hf
        obtain ⟨x3237, hx3238, hf⟩ := bs hf
        obtain ⟨x3246, hx3247, hf⟩ := bs hf
        obtain ⟨x3251, hx3252, hf⟩ := bs hf
        obtain ⟨x3262, hx3263, hf⟩ := bs hf
        replace hf : ((idx ([10, 11, 12, 9] : List Int) (Int.tmod p15 4)).bind fun x3332 => (bonsaiseat_at.fn 4 0).bind fun x3341 => (bonsaiseat_num.fn (w64 ((w64 (Int.tmod p15 7)) - 3))).bind fun x3346 => (bonsaiseat_one.fn x3332).bind fun x3351 => (bonsaiseat_at.fn 5 0).bind fun x3356 => (bonsaiseat_builder_add.fn p1 [x3341, x3346, x3351, x3356]).bind fun x3367 => some (x3367.l_, x3367.h_)) = _ := Eq.trans (by simp only [hx3224, hx3229, hx3238, hx3247, hx3252, hx3263, guardB, cond_true, Option.bind_some]) hf
        have hlq := KM.le.refl K
        refine s_bwc (cs := [(.int .i64 10), (.int .i64 11), (.int .i64 12), (.int .i64 9)]) hS rfl rfl rfl rfl rfl rfl rfl rfl rfl rfl ?_
        intro b3328 w hS
        refine d_go [] [0] [] [] hX hS hlq rfl rfl trivial ?_
        have h3330 : OwnS 3 K (.slice (some ⟨b3328, 0, none⟩) 4 4) ([10, 11, 12, 9] : List Int) [(b3328, Cl [(.int .i64 10), (.int .i64 11), (.int .i64 12), (.int .i64 9)] 3)] := OwnS.lit ⟨[(.int .i64 10)], _, rfl, rfl, ⟨[(.int .i64 11)], _, rfl, rfl, ⟨[(.int .i64 12)], _, rfl, rfl, ⟨[(.int .i64 9)], _, rfl, rfl, rfl⟩⟩⟩⟩ rfl rfl
        generalize hCg_ : ([(b3328, Cl [(.int .i64 10), (.int .i64 11), (.int .i64 12), (.int .i64 9)] 3)] : Chunks) = C3331 at hS h3330 ⊢
        clear hCg_
        obtain ⟨x3332, hx3333, hf⟩ := bs hf
        refine d_ixo 10 0 (fun _ _ _ _ _ h => h) [0] hS rfl h3330 hx3333 rfl rfl rfl rfl rfl rfl rfl (by kernel_rfl) rfl rfl ?_
        intro b3334 l3335 cs3338 l3336 hcs_ hC3339 hun3337
        obtain rfl := hcs_
        subst hC3339
        have hq3340 := KM.le.refl K
        refine d_ldm 11 0 0 (fun _ _ _ _ _ h => h) [0] hS rfl rfl rfl rfl rfl (by kernel_rfl) rfl rfl ?_
        refine d_op 1 rfl (by kernel_rfl) (by kernel_rfl) (fun X hX => ?_)
        have hlq := KM.le.refl K
        obtain ⟨x3341, hx3342, hf⟩ := bs hf
        refine s_call isf51 hS.nilG (bonsaiseat_at_spec hx3342) rfl rfl rfl ?_
        rintro _ K3343 C3345 w hk3344 rfl hS
        replace hS := hS.drop1
        replace hlq := hlq.trans hk3344
        refine d_go [0] [0] [] [] hX hS hlq rfl rfl trivial ?_
        refine d_op 6 rfl (by kernel_rfl) (by kernel_rfl) (fun X hX => ?_)
        have hlq := KM.le.refl K3343
        obtain ⟨x3346, hx3347, hf⟩ := bs hf
        refine s_call isf59 hS.nilG (bonsaiseat_num_spec hx3347) rfl rfl rfl ?_
        rintro _ K3348 C3350 w hk3349 rfl hS
        replace hS := hS.drop1
        replace hlq := hlq.trans hk3349
        refine d_go [0] [0] [] [] hX hS hlq rfl rfl trivial ?_
        refine d_op 12 rfl (by kernel_rfl) (by kernel_rfl) (fun X hX => ?_)
        have hlq := KM.le.refl K3348
        obtain ⟨x3351, hx3352, hf⟩ := bs hf
        refine s_call isf50 hS.nilG (bonsaiseat_one_spec hx3352) rfl rfl rfl ?_
        rintro _ K3353 C3355 w hk3354 rfl hS
        replace hS := hS.drop1
        replace hlq := hlq.trans hk3354
        refine d_go [0] [0] [] [] hX hS hlq rfl rfl trivial ?_
        refine d_op 13 rfl (by kernel_rfl) (by kernel_rfl) (fun X hX => ?_)
        have hlq := KM.le.refl K3353
        obtain ⟨x3356, hx3357, hf⟩ := bs hf
        refine s_call isf51 hS.nilG (bonsaiseat_at_spec hx3357) rfl rfl rfl ?_
        rintro _ K3358 C3360 w hk3359 rfl hS
        replace hS := hS.drop1
        replace hlq := hlq.trans hk3359
        refine d_go [0] [0] [] [] hX hS hlq rfl rfl trivial ?_
        refine d_op 14 rfl (by kernel_rfl) (by kernel_rfl) (fun X hX => ?_)
        have hlq := KM.le.refl K3358
        refine s_bwc (cs := ((vv77 x3341) ++ ((vv77 x3346) ++ ((vv77 x3351) ++ ((vv77 x3356) ++ []))))) hS rfl rfl rfl rfl rfl rfl rfl rfl rfl rfl ?_
        intro b3361 w hS
        refine d_go [1] [1] [] [] hX hS hlq rfl rfl trivial ?_
        refine d_op 15 rfl (by kernel_rfl) (by kernel_rfl) (fun X hX => ?_)
        have hlq := KM.le.refl K3358
        have h3363 : OwnS 77 K3358 (.slice (some ⟨b3361, 0, none⟩) 4 4) [x3341, x3346, x3351, x3356] [(b3361, Cl ((vv77 x3341) ++ ((vv77 x3346) ++ ((vv77 x3351) ++ ((vv77 x3356) ++ [])))) 77)] := OwnS.lit ⟨(vv77 x3341), _, rfl, rfl, ⟨(vv77 x3346), _, rfl, rfl, ⟨(vv77 x3351), _, rfl, rfl, ⟨(vv77 x3356), _, rfl, rfl, rfl⟩⟩⟩⟩ rfl rfl
        obtain ⟨K3364, hk3365, h3366, hS⟩ := h3363.freeze (hS.sel [0, 1, 2, 3, 4, 5] rfl)
        replace hS : Sat w _ (flat [_, _, _, _, _]) := hS
        obtain ⟨x3367, hx3368, hf⟩ := bs hf
        have hkk16 := (((hk3344.trans hk3349).trans hk3354).trans hk3359).trans hk3365
        replace h5 := h5.mono hkk16
        replace h8 := h8.mono hkk16
        refine s_call isf58 (Sat.shut3 (hS.sel [1, 2, 3, 0, 4] rfl)) (bonsaiseat_builder_add_spec hx3368 h5 h8 h3366) rfl rfl rfl ?_
        rintro _ K3369 _ w hk3370 ⟨a3372, c3373, a3375, c3376, C3379, C3380, rfl, h3374, h3377, rfl⟩ hS
        replace hS := hS.open3
        replace hlq := hlq.trans (hk3365.trans hk3370)
        refine d_go [3] [3] [] [] hX hS hlq rfl rfl trivial ?_
        refine d_end (by kernel_rfl) ?_
        refine qn ?_
        have hq := Option.some.inj hf
        subst hq
        have hkk17 := hkk16.trans hk3370
        replace hle := hle.trans hkk17
        refine s_join hJ _ ⟨K3369, a3372, c3373, C3379, a3375, c3376, C3380, rfl, hle, h3374, h3377, (hS.sel [0, 1, 2, 4] rfl)⟩ ⟨rfl, rfl, rfl, trivial⟩
      rintro _ w ⟨K3037, a3039, c3040, C3041, a3044, c3045, C3046, rfl, hle, h3038, h3043, hS⟩
      refine qn (s_reg ?_)
      iterate 2 refine s_v rfl rfl rfl ?_
      refine s_bwc (cs := [(.string (⟨#[90, 101, 114, 111, 70, 97, 117, 108, 116]⟩ : ByteArray)), (.string (⟨#[70, 97, 117, 108, 116]⟩ : ByteArray))]) hS rfl rfl rfl rfl rfl rfl rfl rfl rfl rfl ?_
      intro b3383 w hS
      iterate 3 refine s_v rfl rfl rfl ?_
      have h3385 : OwnS 9 K3037 (.slice (some ⟨b3383, 0, none⟩) 2 2) ([(⟨#[90, 101, 114, 111, 70, 97, 117, 108, 116]⟩ : ByteArray), (⟨#[70, 97, 117, 108, 116]⟩ : ByteArray)] : List ByteArray) [(b3383, Cl [(.string (⟨#[90, 101, 114, 111, 70, 97, 117, 108, 116]⟩ : ByteArray)), (.string (⟨#[70, 97, 117, 108, 116]⟩ : ByteArray))] 9)] := OwnS.lit ⟨[(.string (⟨#[90, 101, 114, 111, 70, 97, 117, 108, 116]⟩ : ByteArray))], _, rfl, rfl, ⟨[(.string (⟨#[70, 97, 117, 108, 116]⟩ : ByteArray))], _, rfl, rfl, rfl⟩⟩ rfl rfl
      generalize hCg_ : ([(b3383, Cl [(.string (⟨#[90, 101, 114, 111, 70, 97, 117, 108, 116]⟩ : ByteArray)), (.string (⟨#[70, 97, 117, 108, 116]⟩ : ByteArray))] 9)] : Chunks) = C3386 at hS h3385
      clear hCg_
      obtain ⟨x3387, hx3388, hf⟩ := bs hf
      refine s_ixo 0 hS rfl h3385 hx3388 rfl rfl rfl rfl rfl rfl rfl ?_
      intro b3389 l3390 cs3393 l3391 hcs_ hC3394 hun3392
      obtain rfl := hcs_
      subst hC3394
      have hq3395 := KM.le.refl K3037
      refine s_ldm 0 0 hS rfl rfl rfl rfl rfl ?_
      obtain ⟨x3396, hx3397, hf⟩ := bs hf
      refine s_call isf68 (Sat.shut3 (hS.sel [1, 2, 3, 0, 4] rfl)) (bonsaiseat_builder_try_spec hx3397 h3038 h3043) rfl rfl rfl ?_
      rintro _ K3398 _ w hk3399 ⟨a3401, c3402, a3404, c3405, C3408, C3409, rfl, h3403, h3406, rfl⟩ hS
      replace hS := hS.open3
      refine s_nil (qbn (qn ?_))
      have hq := Option.some.inj hf
      subst hq
      replace hle := hle.trans hk3399
      refine s_join hJ _ ⟨(x3396.l_, x3396.h_), K3398, a3401, c3402, C3408, a3404, c3405, C3409, rfl, rfl, hle, h3403, h3406, (hS.sel [0, 1, 2, 4] rfl)⟩ ⟨rfl, trivial⟩
    replace hf := bif_f hc hf
    refine s_seq (s_reg ?_)
    iterate 2 refine s_v rfl rfl rfl ?_
    refine s_nil (qn ?_)
    refine s_if rfl (fun hc => ?_) (fun hc => ?_)
    · replace hf := bif_t hc hf
      obtain ⟨s3756, hst3757, hf⟩ := bs hf
      refine s_cut1 (fun τ w => ∃ (K3745 : KM) (a3747 : Option Addr) (c3748 : Nat) (C3749 : Chunks) (a3752 : Option Addr) (c3753 : Nat) (C3754 : Chunks), τ = [(0, (.pointer (some ⟨b2, 0, none⟩)))] ∧ KM.le K K3745 ∧ OwnS 77 K3745 (.slice a3747 s3756.1.length c3748) s3756.1 C3749 ∧ OwnS 92 K3745 (.slice a3752 s3756.2.length c3753) s3756.2 C3754 ∧ Sat w K3745 (flat [[(b2, Cl [(.slice a3747 s3756.1.length c3748), (.slice a3752 s3756.2.length c3753)] 127)], C3749, C3754, L])) (fun J hJ => ?_) ?_
      · replace hf := hst3757
        refine d_start [] [] hS ?_
        intro w hS
        refine d_v 0 (fun _ _ _ _ _ h => h) [] hS rfl rfl rfl (by kernel_rfl) rfl rfl ?_
        refine d_v 2 (fun _ _ _ _ _ h => h) [] hS rfl rfl rfl (by kernel_rfl) rfl rfl ?_
        refine d_v 3 (fun _ _ _ _ _ h => h) [] hS rfl rfl rfl (by kernel_rfl) rfl rfl ?_
        refine d_v 4 (fun _ _ _ _ _ h => h) [] hS rfl rfl rfl (by kernel_rfl) rfl rfl ?_
        refine d_v 7 (fun _ _ _ _ _ h => h) [] hS rfl rfl rfl (by kernel_rfl) rfl rfl ?_
        refine d_v 8 (fun _ _ _ _ _ h => h) [] hS rfl rfl rfl (by kernel_rfl) rfl rfl ?_
        refine d_ops [1, 6] (by kernel_rfl) rfl (.cons ⟨rfl, (by kernel_rfl), fun X hX => ?_⟩ (.cons ⟨rfl, (by kernel_rfl), fun X hX => ?_⟩ AllB.nil))
        · have hlq := KM.le.refl K
          obtain ⟨x3931, hx3932, hf⟩ := bs hf
          refine s_call isf51 hS.nilG (bonsaiseat_at_spec hx3932) rfl rfl rfl ?_
          rintro _ K3933 C3935 w hk3934 rfl hS
          replace hS := hS.drop1
          replace hlq := hlq.trans hk3934
          refine d_go [] [] [] [] hX hS hlq rfl rfl trivial ?_
          refine d_ops [5, 6] (by kernel_rfl) rfl (.cons ⟨rfl, (by kernel_rfl), fun X hX => ?_⟩ (.cons ⟨rfl, (by kernel_rfl), fun X hX => ?_⟩ AllB.nil))
          · have hlq := KM.le.refl K3933
            obtain ⟨x3936, hx3937, hf⟩ := bs hf
            refine s_call isf59 hS.nilG (bonsaiseat_num_spec hx3937) rfl rfl rfl ?_
            rintro _ K3938 C3940 w hk3939 rfl hS
            replace hS := hS.drop1
            replace hlq := hlq.trans hk3939
            refine d_go [] [] [] [] hX hS hlq rfl rfl trivial ?_
            refine d_op 6 rfl (by kernel_rfl) (by kernel_rfl) (fun X hX => ?_)
            have hlq := KM.le.refl K3938
            refine s_bwc (cs := [(.int .i64 14), (.int .i64 15)]) hS rfl rfl rfl rfl rfl rfl rfl rfl rfl rfl ?_
            intro b3941 w hS
            refine d_go [] [0] [] [] hX hS hlq rfl rfl trivial ?_
            have h3943 : OwnS 3 K3938 (.slice (some ⟨b3941, 0, none⟩) 2 2) ([14, 15] : List Int) [(b3941, Cl [(.int .i64 14), (.int .i64 15)] 3)] := OwnS.lit ⟨[(.int .i64 14)], _, rfl, rfl, ⟨[(.int .i64 15)], _, rfl, rfl, rfl⟩⟩ rfl rfl
            generalize hCg_ : ([(b3941, Cl [(.int .i64 14), (.int .i64 15)] 3)] : Chunks) = C3944 at hS h3943 ⊢
            clear hCg_
            obtain ⟨x3945, hx3946, hf⟩ := bs hf
            refine d_ixo 9 0 (fun _ _ _ _ _ h => h) [0] hS rfl h3943 hx3946 rfl rfl rfl rfl rfl rfl rfl (by kernel_rfl) rfl rfl ?_
            intro b3947 l3948 cs3951 l3949 hcs_ hC3952 hun3950
            obtain rfl := hcs_
            subst hC3952
            have hq3953 := KM.le.refl K3938
            refine d_ldm 10 0 0 (fun _ _ _ _ _ h => h) [0] hS rfl rfl rfl rfl rfl (by kernel_rfl) rfl rfl ?_
            refine d_op 11 rfl (by kernel_rfl) (by kernel_rfl) (fun X hX => ?_)
            have hlq := KM.le.refl K3938
            obtain ⟨x3954, hx3955, hf⟩ := bs hf
            refine s_call isf50 hS.nilG (bonsaiseat_one_spec hx3955) rfl rfl rfl ?_
            rintro _ K3956 C3958 w hk3957 rfl hS
            replace hS := hS.drop1
            replace hlq := hlq.trans hk3957
            refine d_go [0] [0] [] [] hX hS hlq rfl rfl trivial ?_
            refine d_op 12 rfl (by kernel_rfl) (by kernel_rfl) (fun X hX => ?_)
            have hlq := KM.le.refl K3956
            obtain ⟨x3959, hx3960, hf⟩ := bs hf
            refine s_call isf51 hS.nilG (bonsaiseat_at_spec hx3960) rfl rfl rfl ?_
            rintro _ K3961 C3963 w hk3962 rfl hS
            replace hS := hS.drop1
            replace hlq := hlq.trans hk3962
            refine d_go [0] [0] [] [] hX hS hlq rfl rfl trivial ?_
            refine d_op 13 rfl (by kernel_rfl) (by kernel_rfl) (fun X hX => ?_)
            have hlq := KM.le.refl K3961
            refine s_bwc (cs := ((vv77 x3931) ++ ((vv77 x3936) ++ ((vv77 x3954) ++ ((vv77 x3959) ++ []))))) hS rfl rfl rfl rfl rfl rfl rfl rfl rfl rfl ?_
            intro b3964 w hS
            refine d_go [1] [1] [] [] hX hS hlq rfl rfl trivial ?_
            refine d_op 14 rfl (by kernel_rfl) (by kernel_rfl) (fun X hX => ?_)
            have hlq := KM.le.refl K3961
            have h3966 : OwnS 77 K3961 (.slice (some ⟨b3964, 0, none⟩) 4 4) [x3931, x3936, x3954, x3959] [(b3964, Cl ((vv77 x3931) ++ ((vv77 x3936) ++ ((vv77 x3954) ++ ((vv77 x3959) ++ [])))) 77)] := OwnS.lit ⟨(vv77 x3931), _, rfl, rfl, ⟨(vv77 x3936), _, rfl, rfl, ⟨(vv77 x3954), _, rfl, rfl, ⟨(vv77 x3959), _, rfl, rfl, rfl⟩⟩⟩⟩ rfl rfl
            obtain ⟨K3967, hk3968, h3969, hS⟩ := h3966.freeze (hS.sel [0, 1, 2, 3, 4, 5] rfl)
            replace hS : Sat w _ (flat [_, _, _, _, _]) := hS
            obtain ⟨x3970, hx3971, hf⟩ := bs hf
            have hkk18 := (((hk3934.trans hk3939).trans hk3957).trans hk3962).trans hk3968
            replace h5 := h5.mono hkk18
            replace h8 := h8.mono hkk18
            refine s_call isf58 (Sat.shut3 (hS.sel [1, 2, 3, 0, 4] rfl)) (bonsaiseat_builder_add_spec hx3971 h5 h8 h3969) rfl rfl rfl ?_
            rintro _ K3972 _ w hk3973 ⟨a3975, c3976, a3978, c3979, C3982, C3983, rfl, h3977, h3980, rfl⟩ hS
            replace hS := hS.open3
            replace hlq := hlq.trans (hk3968.trans hk3973)
            refine d_go [3] [3] [] [] hX hS hlq rfl rfl trivial ?_
            refine d_end (by kernel_rfl) ?_
            refine qn ?_
            have hq := Option.some.inj hf
            subst hq
            have hkk19 := hkk18.trans hk3973
            replace hle := hle.trans hkk19
            refine s_join hJ _ ⟨K3972, a3975, c3976, C3982, a3978, c3979, C3983, rfl, hle, h3977, h3980, (hS.sel [0, 1, 2, 4] rfl)⟩ ⟨rfl, trivial⟩
          obtain ⟨x3936, hx3937, hf⟩ := bs hf
          obtain ⟨x3945, hx3946, hf⟩ := bs hf
          obtain ⟨x3954, hx3955, hf⟩ := bs hf
          obtain ⟨x3959, hx3960, hf⟩ := bs hf
          obtain ⟨x3970, hx3971, hf⟩ := bs hf
          replace hf : ((idx ([14, 15] : List Int) (Int.tmod p15 2)).bind fun x3990 => (bonsaiseat_num.fn (w64 (Int.tmod p15 9))).bind fun x3999 => (bonsaiseat_one.fn x3990).bind fun x4004 => (bonsaiseat_at.fn 5 0).bind fun x4009 => (bonsaiseat_builder_add.fn p1 [x3931, x3999, x4004, x4009]).bind fun x4020 => some (x4020.l_, x4020.h_)) = _ := Eq.trans (by simp only [hx3937, hx3946, hx3955, hx3960, hx3971, guardB, cond_true, Option.bind_some]) hf
          have hlq := KM.le.refl K3933
          refine s_bwc (cs := [(.int .i64 14), (.int .i64 15)]) hS rfl rfl rfl rfl rfl rfl rfl rfl rfl rfl ?_
          intro b3986 w hS
          refine d_go [] [0] [] [] hX hS hlq rfl rfl trivial ?_
          have h3988 : OwnS 3 K3933 (.slice (some ⟨b3986, 0, none⟩) 2 2) ([14, 15] : List Int) [(b3986, Cl [(.int .i64 14), (.int .i64 15)] 3)] := OwnS.lit ⟨[(.int .i64 14)], _, rfl, rfl, ⟨[(.int .i64 15)], _, rfl, rfl, rfl⟩⟩ rfl rfl
          generalize hCg_ : ([(b3986, Cl [(.int .i64 14), (.int .i64 15)] 3)] : Chunks) = C3989 at hS h3988 ⊢
          clear hCg_
          obtain ⟨x3990, hx3991, hf⟩ := bs hf
          refine d_ixo 9 0 (fun _ _ _ _ _ h => h) [0] hS rfl h3988 hx3991 rfl rfl rfl rfl rfl rfl rfl (by kernel_rfl) rfl rfl ?_
          intro b3992 l3993 cs3996 l3994 hcs_ hC3997 hun3995
          obtain rfl := hcs_
          subst hC3997
          have hq3998 := KM.le.refl K3933
          refine d_ldm 10 0 0 (fun _ _ _ _ _ h => h) [0] hS rfl rfl rfl rfl rfl (by kernel_rfl) rfl rfl ?_
          refine d_op 5 rfl (by kernel_rfl) (by kernel_rfl) (fun X hX => ?_)
          have hlq := KM.le.refl K3933
          obtain ⟨x3999, hx4000, hf⟩ := bs hf
          refine s_call isf59 hS.nilG (bonsaiseat_num_spec hx4000) rfl rfl rfl ?_
          rintro _ K4001 C4003 w hk4002 rfl hS
          replace hS := hS.drop1
          replace hlq := hlq.trans hk4002
          refine d_go [0] [0] [] [] hX hS hlq rfl rfl trivial ?_
          refine d_op 11 rfl (by kernel_rfl) (by kernel_rfl) (fun X hX => ?_)
          have hlq := KM.le.refl K4001
          obtain ⟨x4004, hx4005, hf⟩ := bs hf
          refine s_call isf50 hS.nilG (bonsaiseat_one_spec hx4005) rfl rfl rfl ?_
          rintro _ K4006 C4008 w hk4007 rfl hS
          replace hS := hS.drop1
          replace hlq := hlq.trans hk4007
          refine d_go [0] [0] [] [] hX hS hlq rfl rfl trivial ?_
          refine d_op 12 rfl (by kernel_rfl) (by kernel_rfl) (fun X hX => ?_)
          have hlq := KM.le.refl K4006
          obtain ⟨x4009, hx4010, hf⟩ := bs hf
          refine s_call isf51 hS.nilG (bonsaiseat_at_spec hx4010) rfl rfl rfl ?_
          rintro _ K4011 C4013 w hk4012 rfl hS
          replace hS := hS.drop1
          replace hlq := hlq.trans hk4012
          refine d_go [0] [0] [] [] hX hS hlq rfl rfl trivial ?_
          refine d_op 13 rfl (by kernel_rfl) (by kernel_rfl) (fun X hX => ?_)
          have hlq := KM.le.refl K4011
          refine s_bwc (cs := ((vv77 x3931) ++ ((vv77 x3999) ++ ((vv77 x4004) ++ ((vv77 x4009) ++ []))))) hS rfl rfl rfl rfl rfl rfl rfl rfl rfl rfl ?_
          intro b4014 w hS
          refine d_go [1] [1] [] [] hX hS hlq rfl rfl trivial ?_
          refine d_op 14 rfl (by kernel_rfl) (by kernel_rfl) (fun X hX => ?_)
          have hlq := KM.le.refl K4011
          have h4016 : OwnS 77 K4011 (.slice (some ⟨b4014, 0, none⟩) 4 4) [x3931, x3999, x4004, x4009] [(b4014, Cl ((vv77 x3931) ++ ((vv77 x3999) ++ ((vv77 x4004) ++ ((vv77 x4009) ++ [])))) 77)] := OwnS.lit ⟨(vv77 x3931), _, rfl, rfl, ⟨(vv77 x3999), _, rfl, rfl, ⟨(vv77 x4004), _, rfl, rfl, ⟨(vv77 x4009), _, rfl, rfl, rfl⟩⟩⟩⟩ rfl rfl
          obtain ⟨K4017, hk4018, h4019, hS⟩ := h4016.freeze (hS.sel [0, 1, 2, 3, 4, 5] rfl)
          replace hS : Sat w _ (flat [_, _, _, _, _]) := hS
          obtain ⟨x4020, hx4021, hf⟩ := bs hf
          have hkk20 := (((hk3934.trans hk4002).trans hk4007).trans hk4012).trans hk4018
          replace h5 := h5.mono hkk20
          replace h8 := h8.mono hkk20
          refine s_call isf58 (Sat.shut3 (hS.sel [1, 2, 3, 0, 4] rfl)) (bonsaiseat_builder_add_spec hx4021 h5 h8 h4019) rfl rfl rfl ?_
          rintro _ K4022 _ w hk4023 ⟨a4025, c4026, a4028, c4029, C4032, C4033, rfl, h4027, h4030, rfl⟩ hS
          replace hS := hS.open3
          replace hlq := hlq.trans (hk4018.trans hk4023)
          refine d_go [3] [3] [] [] hX hS hlq rfl rfl trivial ?_
          refine d_end (by kernel_rfl) ?_
          refine qn ?_
          have hq := Option.some.inj hf
          subst hq
          have hkk21 := hkk20.trans hk4023
          replace hle := hle.trans hkk21
          refine s_join hJ _ ⟨K4022, a4025, c4026, C4032, a4028, c4029, C4033, rfl, hle, h4027, h4030, (hS.sel [0, 1, 2, 4] rfl)⟩ ⟨rfl, trivial⟩
        obtain ⟨x3931, hx3932, hf⟩ := bs hf
        obtain ⟨x3936, hx3937, hf⟩ := bs hf
        obtain ⟨x3945, hx3946, hf⟩ := bs hf
        obtain ⟨x3954, hx3955, hf⟩ := bs hf
        obtain ⟨x3959, hx3960, hf⟩ := bs hf
        obtain ⟨x3970, hx3971, hf⟩ := bs hf
        replace hf : ((idx ([14, 15] : List Int) (Int.tmod p15 2)).bind fun x4040 => (bonsaiseat_at.fn 4 0).bind fun x4049 => (bonsaiseat_num.fn (w64 (Int.tmod p15 9))).bind fun x4054 => (bonsaiseat_one.fn x4040).bind fun x4059 => (bonsaiseat_at.fn 5 0).bind fun x4064 => (bonsaiseat_builder_add.fn p1 [x4049, x4054, x4059, x4064]).bind fun x4075 => some (x4075.l_, x4075.h_)) = _ := Eq.trans (by simp only [hx3932, hx3937, hx3946, hx3955, hx3960, hx3971, guardB, cond_true, Option.bind_some]) hf
        have hlq := KM.le.refl K
        refine s_bwc (cs := [(.int .i64 14), (.int .i64 15)]) hS rfl rfl rfl rfl rfl rfl rfl rfl rfl rfl ?_
        intro b4036 w hS
        refine d_go [] [0] [] [] hX hS hlq rfl rfl trivial ?_
        have h4038 : OwnS 3 K (.slice (some ⟨b4036, 0, none⟩) 2 2) ([14, 15] : List Int) [(b4036, Cl [(.int .i64 14), (.int .i64 15)] 3)] := OwnS.lit ⟨[(.int .i64 14)], _, rfl, rfl, ⟨[(.int .i64 15)], _, rfl, rfl, rfl⟩⟩ rfl rfl
        generalize hCg_ : ([(b4036, Cl [(.int .i64 14), (.int .i64 15)] 3)] : Chunks) = C4039 at hS h4038 ⊢
        clear hCg_
        obtain ⟨x4040, hx4041, hf⟩ := bs hf
        refine d_ixo 9 0 (fun _ _ _ _ _ h => h) [0] hS rfl h4038 hx4041 rfl rfl rfl rfl rfl rfl rfl (by kernel_rfl) rfl rfl ?_
        intro b4042 l4043 cs4046 l4044 hcs_ hC4047 hun4045
        obtain rfl := hcs_
        subst hC4047
        have hq4048 := KM.le.refl K
        refine d_ldm 10 0 0 (fun _ _ _ _ _ h => h) [0] hS rfl rfl rfl rfl rfl (by kernel_rfl) rfl rfl ?_
        refine d_op 1 rfl (by kernel_rfl) (by kernel_rfl) (fun X hX => ?_)
        have hlq := KM.le.refl K
        obtain ⟨x4049, hx4050, hf⟩ := bs hf
        refine s_call isf51 hS.nilG (bonsaiseat_at_spec hx4050) rfl rfl rfl ?_
        rintro _ K4051 C4053 w hk4052 rfl hS
        replace hS := hS.drop1
        replace hlq := hlq.trans hk4052
        refine d_go [0] [0] [] [] hX hS hlq rfl rfl trivial ?_
        refine d_op 5 rfl (by kernel_rfl) (by kernel_rfl) (fun X hX => ?_)
        have hlq := KM.le.refl K4051
        obtain ⟨x4054, hx4055, hf⟩ := bs hf
        refine s_call isf59 hS.nilG (bonsaiseat_num_spec hx4055) rfl rfl rfl ?_
        rintro _ K4056 C4058 w hk4057 rfl hS
        replace hS := hS.drop1
        replace hlq := hlq.trans hk4057
        refine d_go [0] [0] [] [] hX hS hlq rfl rfl trivial ?_
        refine d_op 11 rfl (by kernel_rfl) (by kernel_rfl) (fun X hX => ?_)
        have hlq := KM.le.refl K4056
        obtain ⟨x4059, hx4060, hf⟩ := bs hf
        refine s_call isf50 hS.nilG (bonsaiseat_one_spec hx4060) rfl rfl rfl ?_
        rintro _ K4061 C4063 w hk4062 rfl hS
        replace hS := hS.drop1
        replace hlq := hlq.trans hk4062
        refine d_go [0] [0] [] [] hX hS hlq rfl rfl trivial ?_
        refine d_op 12 rfl (by kernel_rfl) (by kernel_rfl) (fun X hX => ?_)
        have hlq := KM.le.refl K4061
        obtain ⟨x4064, hx4065, hf⟩ := bs hf
        refine s_call isf51 hS.nilG (bonsaiseat_at_spec hx4065) rfl rfl rfl ?_
        rintro _ K4066 C4068 w hk4067 rfl hS
        replace hS := hS.drop1
        replace hlq := hlq.trans hk4067
        refine d_go [0] [0] [] [] hX hS hlq rfl rfl trivial ?_
        refine d_op 13 rfl (by kernel_rfl) (by kernel_rfl) (fun X hX => ?_)
        have hlq := KM.le.refl K4066
        refine s_bwc (cs := ((vv77 x4049) ++ ((vv77 x4054) ++ ((vv77 x4059) ++ ((vv77 x4064) ++ []))))) hS rfl rfl rfl rfl rfl rfl rfl rfl rfl rfl ?_
        intro b4069 w hS
        refine d_go [1] [1] [] [] hX hS hlq rfl rfl trivial ?_
        refine d_op 14 rfl (by kernel_rfl) (by kernel_rfl) (fun X hX => ?_)
        have hlq := KM.le.refl K4066
        have h4071 : OwnS 77 K4066 (.slice (some ⟨b4069, 0, none⟩) 4 4) [x4049, x4054, x4059, x4064] [(b4069, Cl ((vv77 x4049) ++ ((vv77 x4054) ++ ((vv77 x4059) ++ ((vv77 x4064) ++ [])))) 77)] := OwnS.lit ⟨(vv77 x4049), _, rfl, rfl, ⟨(vv77 x4054), _, rfl, rfl, ⟨(vv77 x4059), _, rfl, rfl, ⟨(vv77 x4064), _, rfl, rfl, rfl⟩⟩⟩⟩ rfl rfl
        obtain ⟨K4072, hk4073, h4074, hS⟩ := h4071.freeze (hS.sel [0, 1, 2, 3, 4, 5] rfl)
        replace hS : Sat w _ (flat [_, _, _, _, _]) := hS
        obtain ⟨x4075, hx4076, hf⟩ := bs hf
        have hkk22 := (((hk4052.trans hk4057).trans hk4062).trans hk4067).trans hk4073
        replace h5 := h5.mono hkk22
        replace h8 := h8.mono hkk22
        refine s_call isf58 (Sat.shut3 (hS.sel [1, 2, 3, 0, 4] rfl)) (bonsaiseat_builder_add_spec hx4076 h5 h8 h4074) rfl rfl rfl ?_
        rintro _ K4077 _ w hk4078 ⟨a4080, c4081, a4083, c4084, C4087, C4088, rfl, h4082, h4085, rfl⟩ hS
        replace hS := hS.open3
        replace hlq := hlq.trans (hk4073.trans hk4078)
        refine d_go [3] [3] [] [] hX hS hlq rfl rfl trivial ?_
        refine d_end (by kernel_rfl) ?_
        refine qn ?_
        have hq := Option.some.inj hf
        subst hq
        have hkk23 := hkk22.trans hk4078
        replace hle := hle.trans hkk23
        refine s_join hJ _ ⟨K4077, a4080, c4081, C4087, a4083, c4084, C4088, rfl, hle, h4082, h4085, (hS.sel [0, 1, 2, 4] rfl)⟩ ⟨rfl, trivial⟩
      rintro _ w ⟨K3745, a3747, c3748, C3749, a3752, c3753, C3754, rfl, hle, h3746, h3751, hS⟩
      refine qbn (qn ?_)
      have hq := Option.some.inj hf
      subst hq
      refine s_join hJ _ ⟨(s3756.1, s3756.2), K3745, a3747, c3748, C3749, a3752, c3753, C3754, rfl, rfl, hle, h3746, h3751, hS⟩ ⟨rfl, trivial⟩
    replace hf := bif_f hc hf
    refine s_seq (s_reg ?_)
    iterate 2 refine s_v rfl rfl rfl ?_
    refine s_nil (qn ?_)
    refine s_if rfl (fun hc => ?_) (fun hc => ?_)
    · replace hf := bif_t hc hf
      refine s_reg ?_
      refine s_v rfl rfl rfl ?_
      obtain ⟨x4091, hx4092, hf⟩ := bs hf
      refine s_call isf51 hS.nilG (bonsaiseat_at_spec hx4092) rfl rfl rfl ?_
      rintro _ K4093 C4095 w hk4094 rfl hS
      replace hS := hS.drop1
      obtain ⟨x4096, hx4097, hf⟩ := bs hf
      refine s_call isf50 hS.nilG (bonsaiseat_one_spec hx4097) rfl rfl rfl ?_
      rintro _ K4098 C4100 w hk4099 rfl hS
      replace hS := hS.drop1
      obtain ⟨x4101, hx4102, hf⟩ := bs hf
      refine s_call isf51 hS.nilG (bonsaiseat_at_spec hx4102) rfl rfl rfl ?_
      rintro _ K4103 C4105 w hk4104 rfl hS
      replace hS := hS.drop1
      refine s_bwc (cs := ((vv77 x4091) ++ ((vv77 x4096) ++ ((vv77 x4101) ++ [])))) hS rfl rfl rfl rfl rfl rfl rfl rfl rfl rfl ?_
      intro b4106 w hS
      have h4108 : OwnS 77 K4103 (.slice (some ⟨b4106, 0, none⟩) 3 3) [x4091, x4096, x4101] [(b4106, Cl ((vv77 x4091) ++ ((vv77 x4096) ++ ((vv77 x4101) ++ []))) 77)] := OwnS.lit ⟨(vv77 x4091), _, rfl, rfl, ⟨(vv77 x4096), _, rfl, rfl, ⟨(vv77 x4101), _, rfl, rfl, rfl⟩⟩⟩ rfl rfl
      obtain ⟨K4109, hk4110, h4111, hS⟩ := h4108.freeze (hS.sel [0, 1, 2, 3, 4] rfl)
      replace hS : Sat w _ (flat [_, _, _, _]) := hS
      obtain ⟨x4112, hx4113, hf⟩ := bs hf
      have hkk24 := ((hk4094.trans hk4099).trans hk4104).trans hk4110
      replace h5 := h5.mono hkk24
      replace h8 := h8.mono hkk24
      refine s_call isf58 (Sat.shut3 hS) (bonsaiseat_builder_add_spec hx4113 h5 h8 h4111) rfl rfl rfl ?_
      rintro _ K4114 _ w hk4115 ⟨a4117, c4118, a4120, c4121, C4124, C4125, rfl, h4119, h4122, rfl⟩ hS
      replace hS := hS.open3
      refine s_nil (qbn (qn ?_))
      have hq := Option.some.inj hf
      subst hq
      have hkk25 := hkk24.trans hk4115
      replace hle := hle.trans hkk25
      refine s_join hJ _ ⟨(x4112.l_, x4112.h_), K4114, a4117, c4118, C4124, a4120, c4121, C4125, rfl, rfl, hle, h4119, h4122, hS⟩ ⟨rfl, trivial⟩
    replace hf := bif_f hc hf
    refine s_seq (s_reg ?_)
    iterate 2 refine s_v rfl rfl rfl ?_
    refine s_nil (qn ?_)
    refine s_if rfl (fun hc => ?_) (fun hc => ?_)
    · replace hf := bif_t hc hf
      refine s_reg ?_
      refine s_v rfl rfl rfl ?_
      obtain ⟨x4128, hx4129, hf⟩ := bs hf
      refine s_call isf51 hS.nilG (bonsaiseat_at_spec hx4129) rfl rfl rfl ?_
      rintro _ K4130 C4132 w hk4131 rfl hS
      replace hS := hS.drop1
      obtain ⟨x4133, hx4134, hf⟩ := bs hf
      refine s_call isf50 hS.nilG (bonsaiseat_one_spec hx4134) rfl rfl rfl ?_
      rintro _ K4135 C4137 w hk4136 rfl hS
      replace hS := hS.drop1
      obtain ⟨x4138, hx4139, hf⟩ := bs hf
      refine s_call isf51 hS.nilG (bonsaiseat_at_spec hx4139) rfl rfl rfl ?_
      rintro _ K4140 C4142 w hk4141 rfl hS
      replace hS := hS.drop1
      refine s_bwc (cs := ((vv77 x4128) ++ ((vv77 x4133) ++ ((vv77 x4138) ++ [])))) hS rfl rfl rfl rfl rfl rfl rfl rfl rfl rfl ?_
      intro b4143 w hS
      have h4145 : OwnS 77 K4140 (.slice (some ⟨b4143, 0, none⟩) 3 3) [x4128, x4133, x4138] [(b4143, Cl ((vv77 x4128) ++ ((vv77 x4133) ++ ((vv77 x4138) ++ []))) 77)] := OwnS.lit ⟨(vv77 x4128), _, rfl, rfl, ⟨(vv77 x4133), _, rfl, rfl, ⟨(vv77 x4138), _, rfl, rfl, rfl⟩⟩⟩ rfl rfl
      obtain ⟨K4146, hk4147, h4148, hS⟩ := h4145.freeze (hS.sel [0, 1, 2, 3, 4] rfl)
      replace hS : Sat w _ (flat [_, _, _, _]) := hS
      obtain ⟨x4149, hx4150, hf⟩ := bs hf
      have hkk26 := ((hk4131.trans hk4136).trans hk4141).trans hk4147
      replace h5 := h5.mono hkk26
      replace h8 := h8.mono hkk26
      refine s_call isf58 (Sat.shut3 hS) (bonsaiseat_builder_add_spec hx4150 h5 h8 h4148) rfl rfl rfl ?_
      rintro _ K4151 _ w hk4152 ⟨a4154, c4155, a4157, c4158, C4161, C4162, rfl, h4156, h4159, rfl⟩ hS
      replace hS := hS.open3
      refine s_nil (qbn (qn ?_))
      have hq := Option.some.inj hf
      subst hq
      have hkk27 := hkk26.trans hk4152
      replace hle := hle.trans hkk27
      refine s_join hJ _ ⟨(x4149.l_, x4149.h_), K4151, a4154, c4155, C4161, a4157, c4158, C4162, rfl, rfl, hle, h4156, h4159, hS⟩ ⟨rfl, trivial⟩
    replace hf := bif_f hc hf
    refine s_seq (s_reg ?_)
    iterate 2 refine s_v rfl rfl rfl ?_
    refine s_nil (qn ?_)
    refine s_if rfl (fun hc => ?_) (fun hc => ?_)
    · replace hf := bif_t hc hf
      refine s_seq (s_reg ?_)
      iterate 5 refine s_v rfl rfl rfl ?_
      obtain ⟨x4165, hx4166, hf⟩ := bs hf
      refine s_call isf59 hS.nilG (bonsaiseat_num_spec hx4166) rfl rfl rfl ?_
      rintro _ K4167 C4169 w hk4168 rfl hS
      replace hS := hS.drop1
      obtain ⟨x4170, hx4171, hf⟩ := bs hf
      refine s_call isf50 hS.nilG (bonsaiseat_one_spec hx4171) rfl rfl rfl ?_
      rintro _ K4172 C4174 w hk4173 rfl hS
      replace hS := hS.drop1
      obtain ⟨x4175, hx4176, hf⟩ := bs hf
      refine s_call isf51 hS.nilG (bonsaiseat_at_spec hx4176) rfl rfl rfl ?_
      rintro _ K4177 C4179 w hk4178 rfl hS
      replace hS := hS.drop1
      refine s_bwc (cs := ((vv77 x4165) ++ ((vv77 x4170) ++ ((vv77 x4175) ++ [])))) hS rfl rfl rfl rfl rfl rfl rfl rfl rfl rfl ?_
      intro b4180 w hS
      have h4182 : OwnS 77 K4177 (.slice (some ⟨b4180, 0, none⟩) 3 3) [x4165, x4170, x4175] [(b4180, Cl ((vv77 x4165) ++ ((vv77 x4170) ++ ((vv77 x4175) ++ []))) 77)] := OwnS.lit ⟨(vv77 x4165), _, rfl, rfl, ⟨(vv77 x4170), _, rfl, rfl, ⟨(vv77 x4175), _, rfl, rfl, rfl⟩⟩⟩ rfl rfl
      obtain ⟨K4183, hk4184, h4185, hS⟩ := h4182.freeze (hS.sel [0, 1, 2, 3, 4] rfl)
      replace hS : Sat w _ (flat [_, _, _, _]) := hS
      obtain ⟨x4186, hx4187, hf⟩ := bs hf
      have hkk28 := ((hk4168.trans hk4173).trans hk4178).trans hk4184
      replace h5 := h5.mono hkk28
      replace h8 := h8.mono hkk28
      refine s_call isf58 (Sat.shut3 hS) (bonsaiseat_builder_add_spec hx4187 h5 h8 h4185) rfl rfl rfl ?_
      rintro _ K4188 _ w hk4189 ⟨a4191, c4192, a4194, c4195, C4198, C4199, rfl, h4193, h4196, rfl⟩ hS
      replace hS := hS.open3
      refine s_nil (qn (s_reg ?_))
      iterate 2 refine s_v rfl rfl rfl ?_
      obtain ⟨x4202, hx4203, hf⟩ := bs hf
      refine s_call isf68 (Sat.shut3 hS) (bonsaiseat_builder_try_spec hx4203 h4193 h4196) rfl rfl rfl ?_
      rintro _ K4204 _ w hk4205 ⟨a4207, c4208, a4210, c4211, C4214, C4215, rfl, h4209, h4212, rfl⟩ hS
      replace hS := hS.open3
      refine s_nil (qbn (qn ?_))
      have hq := Option.some.inj hf
      subst hq
      have hkk29 := (hkk28.trans hk4189).trans hk4205
      replace hle := hle.trans hkk29
      refine s_join hJ _ ⟨(x4202.l_, x4202.h_), K4204, a4207, c4208, C4214, a4210, c4211, C4215, rfl, rfl, hle, h4209, h4212, hS⟩ ⟨rfl, trivial⟩
    replace hf := bif_f hc hf
    refine s_seq (s_reg ?_)
    iterate 2 refine s_v rfl rfl rfl ?_
    refine s_nil (qn ?_)
    refine s_if rfl (fun hc => ?_) (fun hc => ?_)
    · replace hf := bif_t hc hf
      refine s_reg ?_
      refine s_v rfl rfl rfl ?_
      obtain ⟨x4218, hx4219, hf⟩ := bs hf
      refine s_call isf51 hS.nilG (bonsaiseat_at_spec hx4219) rfl rfl rfl ?_
      rintro _ K4220 C4222 w hk4221 rfl hS
      replace hS := hS.drop1
      obtain ⟨x4223, hx4224, hf⟩ := bs hf
      refine s_call isf50 hS.nilG (bonsaiseat_one_spec hx4224) rfl rfl rfl ?_
      rintro _ K4225 C4227 w hk4226 rfl hS
      replace hS := hS.drop1
      obtain ⟨x4228, hx4229, hf⟩ := bs hf
      refine s_call isf51 hS.nilG (bonsaiseat_at_spec hx4229) rfl rfl rfl ?_
      rintro _ K4230 C4232 w hk4231 rfl hS
      replace hS := hS.drop1
      refine s_bwc (cs := ((vv77 x4218) ++ ((vv77 x4223) ++ ((vv77 x4228) ++ [])))) hS rfl rfl rfl rfl rfl rfl rfl rfl rfl rfl ?_
      intro b4233 w hS
      have h4235 : OwnS 77 K4230 (.slice (some ⟨b4233, 0, none⟩) 3 3) [x4218, x4223, x4228] [(b4233, Cl ((vv77 x4218) ++ ((vv77 x4223) ++ ((vv77 x4228) ++ []))) 77)] := OwnS.lit ⟨(vv77 x4218), _, rfl, rfl, ⟨(vv77 x4223), _, rfl, rfl, ⟨(vv77 x4228), _, rfl, rfl, rfl⟩⟩⟩ rfl rfl
      obtain ⟨K4236, hk4237, h4238, hS⟩ := h4235.freeze (hS.sel [0, 1, 2, 3, 4] rfl)
      replace hS : Sat w _ (flat [_, _, _, _]) := hS
      obtain ⟨x4239, hx4240, hf⟩ := bs hf
      have hkk30 := ((hk4221.trans hk4226).trans hk4231).trans hk4237
      replace h5 := h5.mono hkk30
      replace h8 := h8.mono hkk30
      refine s_call isf58 (Sat.shut3 hS) (bonsaiseat_builder_add_spec hx4240 h5 h8 h4238) rfl rfl rfl ?_
      rintro _ K4241 _ w hk4242 ⟨a4244, c4245, a4247, c4248, C4251, C4252, rfl, h4246, h4249, rfl⟩ hS
      replace hS := hS.open3
      refine s_nil (qbn (qn ?_))
      have hq := Option.some.inj hf
      subst hq
      have hkk31 := hkk30.trans hk4242
      replace hle := hle.trans hkk31
      refine s_join hJ _ ⟨(x4239.l_, x4239.h_), K4241, a4244, c4245, C4251, a4247, c4248, C4252, rfl, rfl, hle, h4246, h4249, hS⟩ ⟨rfl, trivial⟩
    replace hf := bif_f hc hf
    refine s_seq (s_reg ?_)
    iterate 2 refine s_v rfl rfl rfl ?_
    refine s_nil (qn ?_)
    refine s_if rfl (fun hc => ?_) (fun hc => ?_)
    · replace hf := bif_t hc hf
      refine s_reg ?_
      refine s_v rfl rfl rfl ?_
      obtain ⟨x4255, hx4256, hf⟩ := bs hf
      refine s_call isf51 hS.nilG (bonsaiseat_at_spec hx4256) rfl rfl rfl ?_
      rintro _ K4257 C4259 w hk4258 rfl hS
      replace hS := hS.drop1
      iterate 2 refine s_v rfl rfl rfl ?_
      obtain ⟨x4260, hx4261, hf⟩ := bs hf
      refine s_call isf51 hS.nilG (bonsaiseat_at_spec hx4261) rfl rfl rfl ?_
      rintro _ K4262 C4264 w hk4263 rfl hS
      replace hS := hS.drop1
      refine s_v rfl rfl rfl ?_
      obtain ⟨x4265, hx4266, hf⟩ := bs hf
      refine s_call isf67 hS.nilG (bonsaiseat_word_spec hx4266) rfl rfl rfl ?_
      rintro _ K4267 C4269 w hk4268 rfl hS
      replace hS := hS.drop1
      obtain ⟨x4270, hx4271, hf⟩ := bs hf
      refine s_call isf60 hS.nilG (bonsaiseat_str_spec hx4271) rfl rfl rfl ?_
      rintro _ K4272 C4274 w hk4273 rfl hS
      replace hS := hS.drop1
      obtain ⟨x4275, hx4276, hf⟩ := bs hf
      refine s_call isf50 hS.nilG (bonsaiseat_one_spec hx4276) rfl rfl rfl ?_
      rintro _ K4277 C4279 w hk4278 rfl hS
      replace hS := hS.drop1
      refine s_bwc (cs := ((vv77 x4255) ++ ((vv77 x4260) ++ ((vv77 x4270) ++ ((vv77 x4275) ++ []))))) hS rfl rfl rfl rfl rfl rfl rfl rfl rfl rfl ?_
      intro b4280 w hS
      have h4282 : OwnS 77 K4277 (.slice (some ⟨b4280, 0, none⟩) 4 4) [x4255, x4260, x4270, x4275] [(b4280, Cl ((vv77 x4255) ++ ((vv77 x4260) ++ ((vv77 x4270) ++ ((vv77 x4275) ++ [])))) 77)] := OwnS.lit ⟨(vv77 x4255), _, rfl, rfl, ⟨(vv77 x4260), _, rfl, rfl, ⟨(vv77 x4270), _, rfl, rfl, ⟨(vv77 x4275), _, rfl, rfl, rfl⟩⟩⟩⟩ rfl rfl
      obtain ⟨K4283, hk4284, h4285, hS⟩ := h4282.freeze (hS.sel [0, 1, 2, 3, 4] rfl)
      replace hS : Sat w _ (flat [_, _, _, _]) := hS
      obtain ⟨x4286, hx4287, hf⟩ := bs hf
      have hkk32 := ((((hk4258.trans hk4263).trans hk4268).trans hk4273).trans hk4278).trans hk4284
      replace h5 := h5.mono hkk32
      replace h8 := h8.mono hkk32
      refine s_call isf58 (Sat.shut3 hS) (bonsaiseat_builder_add_spec hx4287 h5 h8 h4285) rfl rfl rfl ?_
      rintro _ K4288 _ w hk4289 ⟨a4291, c4292, a4294, c4295, C4298, C4299, rfl, h4293, h4296, rfl⟩ hS
      replace hS := hS.open3
      refine s_nil (qbn (qn ?_))
      have hq := Option.some.inj hf
      subst hq
      have hkk33 := hkk32.trans hk4289
      replace hle := hle.trans hkk33
      refine s_join hJ _ ⟨(x4286.l_, x4286.h_), K4288, a4291, c4292, C4298, a4294, c4295, C4299, rfl, rfl, hle, h4293, h4296, hS⟩ ⟨rfl, trivial⟩
    replace hf := bif_f hc hf
    refine s_seq (s_reg ?_)
    iterate 2 refine s_v rfl rfl rfl ?_
    refine s_nil (qn ?_)
    refine s_if rfl (fun hc => ?_) (fun hc => ?_)
    · replace hf := bif_t hc hf
      refine s_seq (s_reg ?_)
      iterate 4 refine s_v rfl rfl rfl ?_
      obtain ⟨x4302, hx4303, hf⟩ := bs hf
      refine s_call isf59 hS.nilG (bonsaiseat_num_spec hx4303) rfl rfl rfl ?_
      rintro _ K4304 C4306 w hk4305 rfl hS
      replace hS := hS.drop1
      obtain ⟨x4307, hx4308, hf⟩ := bs hf
      refine s_call isf51 hS.nilG (bonsaiseat_at_spec hx4308) rfl rfl rfl ?_
      rintro _ K4309 C4311 w hk4310 rfl hS
      replace hS := hS.drop1
      refine s_bwc (cs := ((vv77 x4302) ++ ((vv77 x4307) ++ []))) hS rfl rfl rfl rfl rfl rfl rfl rfl rfl rfl ?_
      intro b4312 w hS
      have h4314 : OwnS 77 K4309 (.slice (some ⟨b4312, 0, none⟩) 2 2) [x4302, x4307] [(b4312, Cl ((vv77 x4302) ++ ((vv77 x4307) ++ [])) 77)] := OwnS.lit ⟨(vv77 x4302), _, rfl, rfl, ⟨(vv77 x4307), _, rfl, rfl, rfl⟩⟩ rfl rfl
      obtain ⟨K4315, hk4316, h4317, hS⟩ := h4314.freeze (hS.sel [0, 1, 2, 3, 4] rfl)
      replace hS : Sat w _ (flat [_, _, _, _]) := hS
      obtain ⟨x4318, hx4319, hf⟩ := bs hf
      replace h5 := h5.mono ((hk4305.trans hk4310).trans hk4316)
      replace h8 := h8.mono ((hk4305.trans hk4310).trans hk4316)
      refine s_call isf58 (Sat.shut3 hS) (bonsaiseat_builder_add_spec hx4319 h5 h8 h4317) rfl rfl rfl ?_
      rintro _ K4320 _ w hk4321 ⟨a4323, c4324, a4326, c4327, C4330, C4331, rfl, h4325, h4328, rfl⟩ hS
      replace hS := hS.open3
      refine s_nil (qn (s_seq (s_reg ?_)))
      refine s_v rfl rfl rfl ?_
      obtain ⟨x4334, hx4335, hf⟩ := bs hf
      refine s_call isf51 hS.nilG (bonsaiseat_at_spec hx4335) rfl rfl rfl ?_
      rintro _ K4336 C4338 w hk4337 rfl hS
      replace hS := hS.drop1
      iterate 2 refine s_v rfl rfl rfl ?_
      obtain ⟨x4339, hx4340, hf⟩ := bs hf
      refine s_call isf51 hS.nilG (bonsaiseat_at_spec hx4340) rfl rfl rfl ?_
      rintro _ K4341 C4343 w hk4342 rfl hS
      replace hS := hS.drop1
      obtain ⟨x4344, hx4345, hf⟩ := bs hf
      refine s_call isf60 hS.nilG (bonsaiseat_str_spec hx4345) rfl rfl rfl ?_
      rintro _ K4346 C4348 w hk4347 rfl hS
      replace hS := hS.drop1
      obtain ⟨x4349, hx4350, hf⟩ := bs hf
      refine s_call isf50 hS.nilG (bonsaiseat_one_spec hx4350) rfl rfl rfl ?_
      rintro _ K4351 C4353 w hk4352 rfl hS
      replace hS := hS.drop1
      obtain ⟨x4354, hx4355, hf⟩ := bs hf
      refine s_call isf51 hS.nilG (bonsaiseat_at_spec hx4355) rfl rfl rfl ?_
      rintro _ K4356 C4358 w hk4357 rfl hS
      replace hS := hS.drop1
      obtain ⟨x4359, hx4360, hf⟩ := bs hf
      refine s_call isf59 hS.nilG (bonsaiseat_num_spec hx4360) rfl rfl rfl ?_
      rintro _ K4361 C4363 w hk4362 rfl hS
      replace hS := hS.drop1
      obtain ⟨x4364, hx4365, hf⟩ := bs hf
      refine s_call isf50 hS.nilG (bonsaiseat_one_spec hx4365) rfl rfl rfl ?_
      rintro _ K4366 C4368 w hk4367 rfl hS
      replace hS := hS.drop1
      obtain ⟨x4369, hx4370, hf⟩ := bs hf
      refine s_call isf51 hS.nilG (bonsaiseat_at_spec hx4370) rfl rfl rfl ?_
      rintro _ K4371 C4373 w hk4372 rfl hS
      replace hS := hS.drop1
      refine s_bwc (cs := ((vv77 x4334) ++ ((vv77 x4339) ++ ((vv77 x4344) ++ ((vv77 x4349) ++ ((vv77 x4354) ++ ((vv77 x4359) ++ ((vv77 x4364) ++ ((vv77 x4369) ++ []))))))))) hS rfl rfl rfl rfl rfl rfl rfl rfl rfl rfl ?_
      intro b4374 w hS
      have h4376 : OwnS 77 K4371 (.slice (some ⟨b4374, 0, none⟩) 8 8) [x4334, x4339, x4344, x4349, x4354, x4359, x4364, x4369] [(b4374, Cl ((vv77 x4334) ++ ((vv77 x4339) ++ ((vv77 x4344) ++ ((vv77 x4349) ++ ((vv77 x4354) ++ ((vv77 x4359) ++ ((vv77 x4364) ++ ((vv77 x4369) ++ [])))))))) 77)] := OwnS.lit ⟨(vv77 x4334), _, rfl, rfl, ⟨(vv77 x4339), _, rfl, rfl, ⟨(vv77 x4344), _, rfl, rfl, ⟨(vv77 x4349), _, rfl, rfl, ⟨(vv77 x4354), _, rfl, rfl, ⟨(vv77 x4359), _, rfl, rfl, ⟨(vv77 x4364), _, rfl, rfl, ⟨(vv77 x4369), _, rfl, rfl, rfl⟩⟩⟩⟩⟩⟩⟩⟩ rfl rfl
      obtain ⟨K4377, hk4378, h4379, hS⟩ := h4376.freeze (hS.sel [0, 1, 2, 3, 4] rfl)
      replace hS : Sat w _ (flat [_, _, _, _]) := hS
      obtain ⟨x4380, hx4381, hf⟩ := bs hf
      have hkk34 := (((((((hk4337.trans hk4342).trans hk4347).trans hk4352).trans hk4357).trans hk4362).trans hk4367).trans hk4372).trans hk4378
      replace h4325 := h4325.mono hkk34
      replace h4328 := h4328.mono hkk34
      refine s_call isf58 (Sat.shut3 hS) (bonsaiseat_builder_add_spec hx4381 h4325 h4328 h4379) rfl rfl rfl ?_
      rintro _ K4382 _ w hk4383 ⟨a4385, c4386, a4388, c4389, C4392, C4393, rfl, h4387, h4390, rfl⟩ hS
      replace hS := hS.open3
      refine s_nil (qn (s_seq (s_reg ?_)))
      iterate 3 refine s_v rfl rfl rfl ?_
      refine s_ld 0 hS rfl rfl rfl rfl rfl ?_
      iterate 4 refine s_v rfl rfl rfl ?_
      obtain ⟨x4396, hx4397, hf⟩ := bs hf
      refine s_ixo 1 hS rfl h4387 hx4397 rfl rfl rfl rfl rfl rfl rfl ?_
      intro b4398 l4399 cs4402 l4400 hcs_ hC4403 hun4401
      obtain rfl := hcs_
      subst hC4403
      have hq4404 := KM.le.refl K4382
      refine s_v rfl rfl rfl ?_
      refine s_stm (cs' := [(.int .i64 x4396.Op), (.int .i32 x4396.N), (.int .i64 (w64 ((p1.l_.length : Int) + 11))), (.string x4396.S), (.string x4396.Class), (.string x4396.Name), (.string x4396.Desc)]) 1 2 hS rfl rfl rfl rfl rfl ?_
      intro w hS
      replace hS : Sat w _ (flat [_, _, _, _]) := hS
      have h4405 := hun4401 K4382 _ _ hq4404 (show GoData.cells 77 _ (api_Instr.mk x4396.Op x4396.N (w64 ((p1.l_.length : Int) + 11)) x4396.S x4396.Class x4396.Name x4396.Desc) _ from rfl)
      have hl4406 := OwnS.len h4405
      refine s_nil (qn (s_reg ?_))
      iterate 3 refine s_v rfl rfl rfl ?_
      obtain ⟨x4407, hx4408, hf⟩ := bs hf
      refine s_call isf51 hS.nilG (bonsaiseat_at_spec hx4408) rfl rfl rfl ?_
      rintro _ K4409 C4411 w hk4410 rfl hS
      replace hS := hS.drop1
      refine s_bwc (cs := (vv77 x4407)) hS rfl rfl rfl rfl rfl rfl rfl rfl rfl rfl ?_
      intro b4412 w hS
      replace h4405 := h4405.mono hk4410
      have h4414 := OwnS.norm h4405
      replace hS : Sat w K4409 (flat [[(b4412, Cl (vv77 x4407) 77)], [(b2, Cl [(.slice a4385 ((x4380.l_.set (w64 ((p1.l_.length : Int) + 3) : Int).toNat (api_Instr.mk x4396.Op x4396.N (w64 ((p1.l_.length : Int) + 11)) x4396.S x4396.Class x4396.Name x4396.Desc)).length) c4386), (.slice a4388 x4380.h_.length c4389)] 127)], [(b4398, Cl (l4399 ++ (([(.int .i64 x4396.Op), (.int .i32 x4396.N), (.int .i64 (w64 ((p1.l_.length : Int) + 11))), (.string x4396.S), (.string x4396.Class), (.string x4396.Name), (.string x4396.Desc)] : List Value) ++ l4400)) 77)], C4393, L]) := by rw [hl4406]; exact hS
      have h4415 : OwnS 77 K4409 (.slice (some ⟨b4412, 0, none⟩) 1 1) [x4407] [(b4412, Cl (vv77 x4407) 77)] := OwnS.lit ⟨(vv77 x4407), _, rfl, rfl, rfl⟩ rfl rfl
      obtain ⟨K4416, hk4417, h4418, hS⟩ := h4415.freeze (hS.sel [0, 1, 2, 3, 4] rfl)
      replace hS : Sat w _ (flat [_, _, _, _]) := hS
      obtain ⟨x4419, hx4420, hf⟩ := bs hf
      replace h4390 := h4390.mono (hk4410.trans hk4417)
      replace h4414 := h4414.mono hk4417
      refine s_call isf58 (Sat.shut3 hS) (bonsaiseat_builder_add_spec hx4420 h4414 h4390 h4418) rfl rfl rfl ?_
      rintro _ K4421 _ w hk4422 ⟨a4424, c4425, a4427, c4428, C4431, C4432, rfl, h4426, h4429, rfl⟩ hS
      replace hS := hS.open3
      refine s_nil (qbn (qn ?_))
      have hq := Option.some.inj hf
      subst hq
      have hkk35 := (((((((((((((((hk4305.trans hk4310).trans hk4316).trans hk4321).trans hk4337).trans hk4342).trans hk4347).trans hk4352).trans hk4357).trans hk4362).trans hk4367).trans hk4372).trans hk4378).trans hk4383).trans hk4410).trans hk4417).trans hk4422
      replace hle := hle.trans hkk35
      refine s_join hJ _ ⟨(x4419.l_, x4419.h_), K4421, a4424, c4425, C4431, a4427, c4428, C4432, rfl, rfl, hle, h4426, h4429, hS⟩ ⟨rfl, trivial⟩
    replace hf := bif_f hc hf
    refine s_seq (s_reg ?_)
    iterate 2 refine s_v rfl rfl rfl ?_
    refine s_nil (qn ?_)
    refine s_if rfl (fun hc => ?_) (fun hc => ?_)
    · replace hf := bif_t hc hf
      refine s_reg ?_
      iterate 2 refine s_v rfl rfl rfl ?_
      obtain ⟨x4435, hx4436, hf⟩ := bs hf
      refine s_call isf67 hS.nilG (bonsaiseat_word_spec hx4436) rfl rfl rfl ?_
      rintro _ K4437 C4439 w hk4438 rfl hS
      replace hS := hS.drop1
      obtain ⟨x4440, hx4441, hf⟩ := bs hf
      refine s_call isf60 hS.nilG (bonsaiseat_str_spec hx4441) rfl rfl rfl ?_
      rintro _ K4442 C4444 w hk4443 rfl hS
      replace hS := hS.drop1
      obtain ⟨x4445, hx4446, hf⟩ := bs hf
      refine s_call isf50 hS.nilG (bonsaiseat_one_spec hx4446) rfl rfl rfl ?_
      rintro _ K4447 C4449 w hk4448 rfl hS
      replace hS := hS.drop1
      obtain ⟨x4450, hx4451, hf⟩ := bs hf
      refine s_call isf50 hS.nilG (bonsaiseat_one_spec hx4451) rfl rfl rfl ?_
      rintro _ K4452 C4454 w hk4453 rfl hS
      replace hS := hS.drop1
      obtain ⟨x4455, hx4456, hf⟩ := bs hf
      refine s_call isf50 hS.nilG (bonsaiseat_one_spec hx4456) rfl rfl rfl ?_
      rintro _ K4457 C4459 w hk4458 rfl hS
      replace hS := hS.drop1
      refine s_bwc (cs := ((vv77 x4440) ++ ((vv77 x4445) ++ ((vv77 x4450) ++ ((vv77 x4455) ++ []))))) hS rfl rfl rfl rfl rfl rfl rfl rfl rfl rfl ?_
      intro b4460 w hS
      have h4462 : OwnS 77 K4457 (.slice (some ⟨b4460, 0, none⟩) 4 4) [x4440, x4445, x4450, x4455] [(b4460, Cl ((vv77 x4440) ++ ((vv77 x4445) ++ ((vv77 x4450) ++ ((vv77 x4455) ++ [])))) 77)] := OwnS.lit ⟨(vv77 x4440), _, rfl, rfl, ⟨(vv77 x4445), _, rfl, rfl, ⟨(vv77 x4450), _, rfl, rfl, ⟨(vv77 x4455), _, rfl, rfl, rfl⟩⟩⟩⟩ rfl rfl
      obtain ⟨K4463, hk4464, h4465, hS⟩ := h4462.freeze (hS.sel [0, 1, 2, 3, 4] rfl)
      replace hS : Sat w _ (flat [_, _, _, _]) := hS
      obtain ⟨x4466, hx4467, hf⟩ := bs hf
      have hkk36 := ((((hk4438.trans hk4443).trans hk4448).trans hk4453).trans hk4458).trans hk4464
      replace h5 := h5.mono hkk36
      replace h8 := h8.mono hkk36
      refine s_call isf58 (Sat.shut3 hS) (bonsaiseat_builder_add_spec hx4467 h5 h8 h4465) rfl rfl rfl ?_
      rintro _ K4468 _ w hk4469 ⟨a4471, c4472, a4474, c4475, C4478, C4479, rfl, h4473, h4476, rfl⟩ hS
      replace hS := hS.open3
      refine s_nil (qbn (qn ?_))
      have hq := Option.some.inj hf
      subst hq
      have hkk37 := hkk36.trans hk4469
      replace hle := hle.trans hkk37
      refine s_join hJ _ ⟨(x4466.l_, x4466.h_), K4468, a4471, c4472, C4478, a4474, c4475, C4479, rfl, rfl, hle, h4473, h4476, hS⟩ ⟨rfl, trivial⟩
    replace hf := bif_f hc hf
    refine s_seq (s_reg ?_)
    refine s_v rfl rfl rfl ?_
    refine s_nil (qn (s_rets (qrb (qrt ?_))))
    replace hf := LR.esc_some hf hm2429
    have hq := Option.some.inj hf
    subst hq
    refine s_ret1 rfl (rv_t rfl) ?_
    exact ⟨K, _, hle, ⟨a3, c4, a6, c7, C10, C11, rfl, h5, h8, rfl⟩, Sat.shut3 hS⟩
  rintro _ w ⟨s2426, K2415, a2417, c2418, C2419, a2422, c2423, C2424, rfl, rfl, hle, h2416, h2421, hS⟩
  replace hf := LR.elim_brk hm2429
  refine s_seq (s_reg ?_)
  refine s_v rfl rfl rfl ?_
  refine s_nil (qn (s_rets ?_))
  have hq := Option.some.inj hf
  subst hq
  refine s_ret1 rfl (rv_t rfl) ?_
  exact ⟨K2415, _, hle, ⟨a2417, c2418, a2422, c2423, C2419, C2424, rfl, h2416, h2421, rfl⟩, Sat.shut3 hS⟩
end Go.Proofs.Ytgaldjnnfkdohaa
