/- Programs of the M-world for Go functions, each with the proof that the Go text does what it says. Printed by lxgen.py. -/
import Derived.Test.YtlkhijflgbobjaaLxT
import Derived.Test.YtlkhijflgbobjaaLxP0
import Derived.Test.YtlkhijflgbobjaaLxP1
import Derived.Test.YtlkhijflgbobjaaLxP2
set_option linter.unusedVariables false
set_option linter.unusedSimpArgs false
namespace Go.Proofs.Ytlkhijflgbobjaa.Lx
open Go Go.Proofs
/-! ### (*weir/neigh.Cache).Tick: function 21 -/
noncomputable def neigh_Cache_Tick.B : Code := (Try.f21.body).getD .skip
noncomputable def neigh_Cache_Tick.cx : Fx := ⟨Try.prog, 21, Try.f21⟩
noncomputable def neigh_Cache_Tick.out (r_ : (Sl × Sl)) : Value := .tuple #[Sl.v r_.1, Sl.v r_.2]
noncomputable def neigh_Cache_Tick.F0 (r_ : (Sl × Sl)) : Reach := .ret (neigh_Cache_Tick.out r_)
noncomputable def neigh_Cache_Tick.F1 (a0 : (Option Addr)) (r1 : Sl) : (LS (Sl × Sl × Int) (Sl × Sl)) → Reach := loopF [.inLoop (c1 (c1 (c2 (c1 (c2 (c2 (c2 neigh_Cache_Tick.B))))))), .inBlock 0, .code (c2 (c2 (c2 (c2 neigh_Cache_Tick.B))))] (fun s_ : (Sl × Sl × Int) => [(0, .pointer a0), (4, Sl.v s_.1), (5, Sl.v s_.2.1), (9, Sl.v r1), (10, .int .i64 (r1.len : Int)), (11, .int .i64 s_.2.2)]) (fun s_ : (Sl × Sl × Int) => []) neigh_Cache_Tick.F0
noncomputable def neigh_Cache_Tick.K1 (a0 : (Option Addr)) (s2 : Sl) (s3 : Sl) (s4 : Int) (x243 : (Option Addr)) : M (LS (Sl × Sl × Int) (Sl × Sl)) :=
  draw >>= fun _ =>
  nilck x243 >>= fun p252 =>
  ld (cI .i64) (Addr.add p252 24) >>= fun x253 =>
  (if x253 = 2 then
      nilck x243 >>= fun p254 =>
      ld (cI .i64) (Addr.add p254 25) >>= fun x255 =>
      nilck a0 >>= fun p256 =>
      ld (cI .i64) (Addr.add p256 4) >>= fun x257 =>
      pure (x255 == x257)
    else
      pure false) >>= fun y258 =>
  if y258 = true then
    nilck x243 >>= fun p366 =>
    st (cI .i64) (Addr.add p366 24) 3 >>= fun _ =>
    nilck x243 >>= fun p367 =>
    st (cI .i64) (Addr.add p367 25) 0 >>= fun _ =>
    pure (LS.next (s2, s3, IntKind.wrap .i64 (s4 + 1)))
  else
    draw >>= fun _ =>
    nilck x243 >>= fun p368 =>
    ld (cI .i64) (Addr.add p368 24) >>= fun x369 =>
    (if x369 ≠ 1 then
        nilck x243 >>= fun p370 =>
        ld (cI .i64) (Addr.add p370 24) >>= fun x371 =>
        pure (x371 != 4)
      else
        pure false) >>= fun y372 =>
    (if y372 = true then
        pure true
      else
        nilck x243 >>= fun p373 =>
        ld (cI .i64) (Addr.add p373 25) >>= fun x374 =>
        nilck a0 >>= fun p375 =>
        ld (cI .i64) (Addr.add p375 2) >>= fun x376 =>
        pure (decide (x374 < x376))) >>= fun y377 =>
    if y377 = true then
      pure (LS.next (s2, s3, IntKind.wrap .i64 (s4 + 1)))
    else
      draw >>= fun _ =>
      nilck x243 >>= fun p425 =>
      ld (cI .i64) (Addr.add p425 26) >>= fun x426 =>
      nilck a0 >>= fun p427 =>
      ld (cI .i64) (Addr.add p427 3) >>= fun x428 =>
      if x426 < x428 then
        nilck x243 >>= fun p450 =>
        ld (cI .i64) (Addr.add p450 26) >>= fun x451 =>
        nilck x243 >>= fun p452 =>
        st (cI .i64) (Addr.add p452 26) (IntKind.wrap .i64 (x451 + 1)) >>= fun _ =>
        nilck x243 >>= fun p453 =>
        st (cI .i64) (Addr.add p453 25) 0 >>= fun _ =>
        draw >>= fun _ =>
        nilck x243 >>= fun p454 =>
        ld (cI .i64) p454 >>= fun x455 =>
        nilck x243 >>= fun p456 =>
        ld c_api_IP (Addr.add p456 1) >>= fun x457 =>
        nilck x243 >>= fun p458 =>
        ld ((cI .u8).arr 6) (Addr.add p458 18) >>= fun x459 =>
        nilck x243 >>= fun p460 =>
        ld (cI .i64) (Addr.add p460 26) >>= fun x461 =>
        slot 111 >>= fun b462 =>
        appl c_api_Ask 111 48 z_api_Ask s2 [(⟨x455, x457, x459, x461⟩ : api_Ask)] >>= fun r463 =>
        pure (LS.next (r463, s3, IntKind.wrap .i64 (s4 + 1)))
      else
        draw >>= fun _ =>
        nilck a0 >>= fun p464 =>
        ld cM (Addr.add p464 5) >>= fun x465 =>
        nilck x243 >>= fun p466 =>
        ld c_neigh_key p466 >>= fun x467 =>
        mdel c_neigh_key cP x465 x467 >>= fun _ =>
        nilck x243 >>= fun p468 =>
        ld cL (Addr.add p468 27) >>= fun x469 =>
        appS (cI .i64) 3 8 0 s3 x469 >>= fun r470 =>
        pure (LS.next (s2, r470, IntKind.wrap .i64 (s4 + 1)))
theorem neigh_Cache_Tick.K1_ok (a0 : (Option Addr)) (r1 : Sl) (s2 : Sl) (s3 : Sl) (s4 : Int) (x243 : (Option Addr)) :
    SJ neigh_Cache_Tick.cx [.code (c2 (c2 (c1 (c1 (c2 (c2 (c1 (c1 (c2 (c1 (c2 (c2 (c2 neigh_Cache_Tick.B))))))))))))), .inBlock 1, .code (c2 (c2 (c2 (c1 (c1 (c2 (c1 (c2 (c2 (c2 neigh_Cache_Tick.B)))))))))), .inLoop (c1 (c1 (c2 (c1 (c2 (c2 (c2 neigh_Cache_Tick.B))))))), .inBlock 0, .code (c2 (c2 (c2 (c2 neigh_Cache_Tick.B))))] [(0, .pointer a0), (4, Sl.v s2), (5, Sl.v s3), (9, Sl.v r1), (10, .int .i64 (r1.len : Int)), (11, .int .i64 s4), (7, .pointer x243)] [] (neigh_Cache_Tick.K1 a0 s2 s3 s4 x243) (neigh_Cache_Tick.F1 a0 r1) := by
  unfold neigh_Cache_Tick.K1
  refine SJ.block (id := 2) ?_
  refine SJ.seq ?_
  refine SJ.draw (id := 10) (kd := [0, 0, 0, 1, 0, 0, 0, 0, 0, 1, 0, 0, 0, 0, 1, 0, 0, 0]) (bef := [0, 1, 3, 7, 15, 31, 63, 127, 255, 511, 63, 1087, 3135, 7231, 15423, 32767, 65535, 131071]) (ord := [0, 1, 2, 3, 4, 5, 6, 7, 8, 9, 10, 11, 12, 13, 14, 15, 16, 17]) mixed ?_
  refine OJ.go 1 [(49, .pointer x243)] ?_
  refine OJ.nilck (d := 50) (y := .tmp 49) (fun p252 => ?_)
  refine OJ.go 1 [(51, .pointer (some (Addr.add p252 24)))] ?_
  refine OJ.ld (d := 52) (y := .tmp 51) (pend2 := fun x253 => [⟨3, 3, (Addr.add p252 24), (cI .i64).val x253⟩]) Ty3 (fun _ => rfl) (fun x253 => ?_)
  refine OJ.go 2 [(54, .bool (x253 == 2)), (53, .bool (x253 == 2))] ?_
  refine OJ.join (b := (x253 == 2)) [6, 7, 8, 9, 10, 11, 12, 13, 14, 15, 16] [17] [0, 4, 5, 9, 10, 11, 7, 65] (fun y258 => [(0, .pointer a0), (4, Sl.v s2), (5, Sl.v s3), (9, Sl.v r1), (10, .int .i64 (r1.len : Int)), (11, .int .i64 s4), (7, .pointer x243), (65, .bool y258)]) [⟨3, 3, (Addr.add p252 24), (cI .i64).val x253⟩] [9, 14] (t := 54) beq_iff_eq (fun hp_ => ?_) (fun hp_ => ?_) (fun _ _ _ _ _ _ h_ => h_) (fun y258 => ?_)
  · refine OJ.go 1 [(55, .pointer x243)] ?_
    refine OJ.nilck (d := 56) (y := .tmp 55) (fun p254 => ?_)
    refine OJ.go 1 [(57, .pointer (some (Addr.add p254 25)))] ?_
    refine OJ.ld (d := 58) (y := .tmp 57) (pend2 := fun x255 => [⟨9, 3, (Addr.add p254 25), (cI .i64).val x255⟩, ⟨3, 3, (Addr.add p252 24), (cI .i64).val x253⟩]) Ty3 (fun _ => rfl) (fun x255 => ?_)
    refine OJ.go 1 [(59, .pointer a0)] ?_
    refine OJ.nilck (d := 60) (y := .tmp 59) (fun p256 => ?_)
    refine OJ.go 2 [(62, .pointer (some (Addr.add p256 4))), (61, .pointer (some p256))] ?_
    refine OJ.ld (d := 63) (y := .tmp 62) (pend2 := fun x257 => [⟨14, 3, (Addr.add p256 4), (cI .i64).val x257⟩, ⟨9, 3, (Addr.add p254 25), (cI .i64).val x255⟩, ⟨3, 3, (Addr.add p252 24), (cI .i64).val x253⟩]) Ty3 (fun _ => rfl) (fun x257 => ?_)
    refine OJ.go 2 [(65, .bool (x255 == x257)), (64, .bool (x255 == x257))] ?_
    exact OJ.nil ⟨(Cov.mem (Cov.drop (List.mem_of_getElem? (i := 1) rfl) (Cov.drop (List.mem_of_getElem? (i := 0) rfl) (Cov.keep (List.mem_of_getElem? (i := 0) rfl) Cov.nil)))), rfl, _, rfl, by kernel_rfl⟩
  · refine OJ.go 11 [(65, .bool false), (64, undef), (63, undef), (62, undef), (61, undef), (60, undef), (59, undef), (58, undef), (57, undef), (56, undef), (55, undef)] ?_
    exact OJ.nil ⟨(Cov.mem (Cov.keep (List.mem_of_getElem? (i := 0) rfl) Cov.nil)), rfl, _, rfl, by kernel_rfl⟩
  · refine OJ.go 1 [(48, .bool y258)] ?_
    refine OJ.nil ?_
    refine SJ.cond (t := (.tmp 48)) (b := y258) Iff.rfl (fun hc473 => ?_) (fun hc473 => ?_)
    · refine SJ.rg 8 ?_
      refine OJ.go 2 [(67, .pointer x243), (66, .pointer x243)] ?_
      refine OJ.nilck (d := 68) (y := .tmp 66) (fun p366 => ?_)
      refine OJ.go 1 [(69, .pointer (some (Addr.add p366 24)))] ?_
      refine OJ.st (y := .tmp 69) (z := .const (.int .i64 3)) (owed := []) Ty3 ?_
      refine OW.nil ?_
      refine OJ.nilck (d := 70) (y := .tmp 67) (fun p367 => ?_)
      refine OJ.go 1 [(71, .pointer (some (Addr.add p367 25)))] ?_
      refine OJ.st (y := .tmp 71) (z := .const (.int .i64 0)) (owed := []) Ty3 ?_
      refine OW.nil ?_
      refine OJ.nil ?_
      refine SJ.inBlock ?_
      refine SJ.inBlock ?_
      refine SJ.rg 2 ?_
      refine OJ.go 2 [(11, .int .i64 (IntKind.wrap .i64 (s4 + 1))), (140, .int .i64 (IntKind.wrap .i64 (s4 + 1)))] ?_
      refine OJ.nil ?_
      exact SJ.at_ [0, 4, 5, 9, 10, 11] rfl
    · refine SJ.seq ?_
      refine SJ.draw (id := 12) (kd := [0, 0, 0, 1, 0, 0, 0, 0, 0, 1, 0, 0, 0, 0, 0, 0, 1, 0, 0, 0, 0, 1, 0, 0, 0]) (bef := [0, 1, 3, 7, 15, 31, 63, 127, 255, 511, 1023, 2047, 4095, 8191, 16383, 32767, 65535, 8191, 139263, 401407, 925695, 1974271, 4194303, 8388607, 16777215]) (ord := [0, 1, 2, 3, 4, 5, 6, 7, 8, 9, 10, 11, 12, 13, 14, 15, 16, 17, 18, 19, 20, 21, 22, 23, 24]) mixed ?_
      refine OJ.go 1 [(73, .pointer x243)] ?_
      refine OJ.nilck (d := 74) (y := .tmp 73) (fun p368 => ?_)
      refine OJ.go 1 [(75, .pointer (some (Addr.add p368 24)))] ?_
      refine OJ.ld (d := 76) (y := .tmp 75) (pend2 := fun x369 => [⟨3, 3, (Addr.add p368 24), (cI .i64).val x369⟩]) Ty3 (fun _ => rfl) (fun x369 => ?_)
      refine OJ.go 2 [(78, .bool (x369 != 1)), (77, .bool (x369 != 1))] ?_
      refine OJ.join (b := (x369 != 1)) [6, 7, 8, 9, 10, 11] [12, 13, 14, 15, 16, 17, 18, 19, 20, 21, 22, 23, 24] [0, 4, 5, 9, 10, 11, 7, 84] (fun y372 => [(0, .pointer a0), (4, Sl.v s2), (5, Sl.v s3), (9, Sl.v r1), (10, .int .i64 (r1.len : Int)), (11, .int .i64 s4), (7, .pointer x243), (84, .bool y372)]) [⟨3, 3, (Addr.add p368 24), (cI .i64).val x369⟩] [9] (t := 78) bne_iff_ne (fun hp_ => ?_) (fun hp_ => ?_) (fun _ _ _ _ _ _ h_ => h_) (fun y372 => ?_)
      · refine OJ.go 1 [(79, .pointer x243)] ?_
        refine OJ.nilck (d := 80) (y := .tmp 79) (fun p370 => ?_)
        refine OJ.go 1 [(81, .pointer (some (Addr.add p370 24)))] ?_
        refine OJ.ld (d := 82) (y := .tmp 81) (pend2 := fun x371 => [⟨9, 3, (Addr.add p370 24), (cI .i64).val x371⟩, ⟨3, 3, (Addr.add p368 24), (cI .i64).val x369⟩]) Ty3 (fun _ => rfl) (fun x371 => ?_)
        refine OJ.go 2 [(84, .bool (x371 != 4)), (83, .bool (x371 != 4))] ?_
        exact OJ.nil ⟨(Cov.mem (Cov.drop (List.mem_of_getElem? (i := 0) rfl) (Cov.keep (List.mem_of_getElem? (i := 0) rfl) Cov.nil))), rfl, _, rfl, by kernel_rfl⟩
      · refine OJ.go 6 [(84, .bool false), (83, undef), (82, undef), (81, undef), (80, undef), (79, undef)] ?_
        exact OJ.nil ⟨(Cov.mem (Cov.keep (List.mem_of_getElem? (i := 0) rfl) Cov.nil)), rfl, _, rfl, by kernel_rfl⟩
      · refine OJ.go 1 [(85, .bool y372)] ?_
        refine OJ.join (b := y372) [13, 14, 15, 16, 17, 18, 19, 20, 21, 22, 23] [24] [0, 4, 5, 9, 10, 11, 7, 96] (fun y377 => [(0, .pointer a0), (4, Sl.v s2), (5, Sl.v s3), (9, Sl.v r1), (10, .int .i64 (r1.len : Int)), (11, .int .i64 s4), (7, .pointer x243), (96, .bool y377)]) [⟨3, 3, (Addr.add p368 24), (cI .i64).val x369⟩] [16, 21] (t := 85) Iff.rfl (fun hp_ => ?_) (fun hp_ => ?_) (fun _ _ _ _ _ _ h_ => h_) (fun y377 => ?_)
        · refine OJ.go 11 [(96, .bool true), (95, undef), (94, undef), (93, undef), (92, undef), (91, undef), (90, undef), (89, undef), (88, undef), (87, undef), (86, undef)] ?_
          exact OJ.nil ⟨(Cov.mem (Cov.keep (List.mem_of_getElem? (i := 0) rfl) Cov.nil)), rfl, _, rfl, by kernel_rfl⟩
        · refine OJ.go 1 [(86, .pointer x243)] ?_
          refine OJ.nilck (d := 87) (y := .tmp 86) (fun p373 => ?_)
          refine OJ.go 1 [(88, .pointer (some (Addr.add p373 25)))] ?_
          refine OJ.ld (d := 89) (y := .tmp 88) (pend2 := fun x374 => [⟨16, 3, (Addr.add p373 25), (cI .i64).val x374⟩, ⟨3, 3, (Addr.add p368 24), (cI .i64).val x369⟩]) Ty3 (fun _ => rfl) (fun x374 => ?_)
          refine OJ.go 1 [(90, .pointer a0)] ?_
          refine OJ.nilck (d := 91) (y := .tmp 90) (fun p375 => ?_)
          refine OJ.go 2 [(93, .pointer (some (Addr.add p375 2))), (92, .pointer (some p375))] ?_
          refine OJ.ld (d := 94) (y := .tmp 93) (pend2 := fun x376 => [⟨21, 3, (Addr.add p375 2), (cI .i64).val x376⟩, ⟨16, 3, (Addr.add p373 25), (cI .i64).val x374⟩, ⟨3, 3, (Addr.add p368 24), (cI .i64).val x369⟩]) Ty3 (fun _ => rfl) (fun x376 => ?_)
          refine OJ.go 2 [(96, .bool (decide (x374 < x376))), (95, .bool (decide (x374 < x376)))] ?_
          exact OJ.nil ⟨(Cov.mem (Cov.drop (List.mem_of_getElem? (i := 1) rfl) (Cov.drop (List.mem_of_getElem? (i := 0) rfl) (Cov.keep (List.mem_of_getElem? (i := 0) rfl) Cov.nil)))), rfl, _, rfl, by kernel_rfl⟩
        · refine OJ.go 1 [(72, .bool y377)] ?_
          refine OJ.nil ?_
          refine SJ.cond (t := (.tmp 72)) (b := y377) Iff.rfl (fun hc472 => ?_) (fun hc472 => ?_)
          · refine SJ.skip ?_
            refine SJ.inBlock ?_
            refine SJ.inBlock ?_
            refine SJ.rg 2 ?_
            refine OJ.go 2 [(11, .int .i64 (IntKind.wrap .i64 (s4 + 1))), (140, .int .i64 (IntKind.wrap .i64 (s4 + 1)))] ?_
            refine OJ.nil ?_
            exact SJ.at_ [0, 4, 5, 9, 10, 11] rfl
          · refine SJ.seq ?_
            refine SJ.draw (id := 13) (kd := [0, 0, 0, 1, 0, 0, 0, 0, 1, 0, 0]) (bef := [0, 1, 3, 7, 0, 16, 48, 112, 240, 511, 1023]) (ord := [0, 1, 2, 3, 4, 5, 6, 7, 8, 9, 10]) mixed ?_
            refine OJ.go 1 [(98, .pointer x243)] ?_
            refine OJ.nilck (d := 99) (y := .tmp 98) (fun p425 => ?_)
            refine OJ.go 1 [(100, .pointer (some (Addr.add p425 26)))] ?_
            refine OJ.ld (d := 101) (y := .tmp 100) (pend2 := fun x426 => [⟨3, 3, (Addr.add p425 26), (cI .i64).val x426⟩]) Ty3 (fun _ => rfl) (fun x426 => ?_)
            refine OJ.go 1 [(102, .pointer a0)] ?_
            refine OJ.nilck (d := 103) (y := .tmp 102) (fun p427 => ?_)
            refine OJ.go 2 [(105, .pointer (some (Addr.add p427 3))), (104, .pointer (some p427))] ?_
            refine OJ.ld (d := 106) (y := .tmp 105) (pend2 := fun x428 => [⟨8, 3, (Addr.add p427 3), (cI .i64).val x428⟩, ⟨3, 3, (Addr.add p425 26), (cI .i64).val x426⟩]) Ty3 (fun _ => rfl) (fun x428 => ?_)
            refine OJ.go 2 [(97, .bool (decide (x426 < x428))), (107, .bool (decide (x426 < x428)))] ?_
            refine OJ.nil ?_
            refine SJ.cond (t := (.tmp 97)) (b := decide (x426 < x428)) decide_eq_true_iff (fun hc471 => ?_) (fun hc471 => ?_)
            · refine SJ.sr 8 ?_
              refine OJ.go 1 [(108, .pointer x243)] ?_
              refine OJ.nilck (d := 109) (y := .tmp 108) (fun p450 => ?_)
              refine OJ.go 1 [(110, .pointer (some (Addr.add p450 26)))] ?_
              refine OJ.ld (d := 111) (y := .tmp 110) (pend2 := fun x451 => []) Ty3 (fun _ => rfl) (fun x451 => ?_)
              refine OJ.go 1 [(112, .int .i64 (IntKind.wrap .i64 (x451 + 1)))] ?_
              refine OJ.nilck (d := 113) (y := .tmp 108) (fun p452 => ?_)
              refine OJ.go 1 [(114, .pointer (some (Addr.add p452 26)))] ?_
              refine OJ.st (y := .tmp 114) (z := .tmp 112) (owed := []) Ty3 ?_
              refine OW.nil ?_
              refine OJ.nil ?_
              refine SJ.sr 4 ?_
              refine OJ.go 1 [(115, .pointer x243)] ?_
              refine OJ.nilck (d := 116) (y := .tmp 115) (fun p453 => ?_)
              refine OJ.go 1 [(117, .pointer (some (Addr.add p453 25)))] ?_
              refine OJ.st (y := .tmp 117) (z := .const (.int .i64 0)) (owed := []) Ty3 ?_
              refine OW.nil ?_
              refine OJ.nil ?_
              refine SJ.draw (id := 16) (kd := [0, 0, 0, 0, 0, 1, 0, 0, 0, 0, 1, 0, 0, 0, 1, 0, 0, 0, 1, 0, 2, 2, 0]) (bef := [0, 0, 2, 6, 14, 30, 0, 64, 192, 448, 960, 0, 2048, 6144, 14336, 0, 32768, 98304, 229376, 524286, 1048574, 2097151, 4194303]) (ord := [0, 1, 2, 3, 4, 5, 6, 7, 8, 9, 10, 11, 12, 13, 14, 15, 16, 17, 18, 19, 20, 21, 22]) mixed ?_
              refine OJ.go 2 [(119, .pointer x243), (118, Sl.v s2)] ?_
              refine OJ.nilck (d := 120) (y := .tmp 119) (fun p454 => ?_)
              refine OJ.go 2 [(122, .pointer (some p454)), (121, .pointer (some p454))] ?_
              refine OJ.ld (d := 123) (y := .tmp 122) (pend2 := fun x455 => [⟨5, 3, p454, (cI .i64).val x455⟩]) Ty3 (fun _ => rfl) (fun x455 => ?_)
              refine OJ.go 1 [(124, .pointer x243)] ?_
              refine OJ.nilck (d := 125) (y := .tmp 124) (fun p456 => ?_)
              refine OJ.go 2 [(127, .pointer (some (Addr.add p456 1))), (126, .pointer (some p456))] ?_
              refine OJ.ld (d := 128) (y := .tmp 127) (pend2 := fun x457 => [⟨10, 32, (Addr.add p456 1), c_api_IP.val x457⟩, ⟨5, 3, p454, (cI .i64).val x455⟩]) Ty32 (fun _ => rfl) (fun x457 => ?_)
              refine OJ.go 1 [(129, .pointer x243)] ?_
              refine OJ.nilck (d := 130) (y := .tmp 129) (fun p458 => ?_)
              refine OJ.go 1 [(131, .pointer (some (Addr.add p458 18)))] ?_
              refine OJ.ld (d := 132) (y := .tmp 131) (pend2 := fun x459 => [⟨14, 34, (Addr.add p458 18), ((cI .u8).arr 6).val x459⟩, ⟨10, 32, (Addr.add p456 1), c_api_IP.val x457⟩, ⟨5, 3, p454, (cI .i64).val x455⟩]) Ty34 (fun _ => rfl) (fun x459 => ?_)
              refine OJ.go 1 [(133, .pointer x243)] ?_
              refine OJ.nilck (d := 134) (y := .tmp 133) (fun p460 => ?_)
              refine OJ.go 1 [(135, .pointer (some (Addr.add p460 26)))] ?_
              refine OJ.ld (d := 136) (y := .tmp 135) (pend2 := fun x461 => [⟨18, 3, (Addr.add p460 26), (cI .i64).val x461⟩, ⟨14, 34, (Addr.add p458 18), ((cI .u8).arr 6).val x459⟩, ⟨10, 32, (Addr.add p456 1), c_api_IP.val x457⟩, ⟨5, 3, p454, (cI .i64).val x455⟩]) Ty3 (fun _ => rfl) (fun x461 => ?_)
              refine OJ.build (d := 137) (T := 111) (parts := [(0, .tmp 123), (1, .tmp 128), (2, .tmp 132), (3, .tmp 136)]) (ps := [(0, (cI .i64).val x455), (1, c_api_IP.val x457), (2, ((cI .u8).arr 6).val x459), (3, (cI .i64).val x461)]) (cd := c_api_Ask) (z0 := z_api_Ask) (⟨x455, x457, x459, x461⟩ : api_Ask) Ty111 rfl (Filled.cons (cd := (cI .i64)) (q := x455) (o := 0) (by kernel_rfl) (Up_api_Ask_Port z_api_Ask x455) (Filled.cons (cd := c_api_IP) (q := x457) (o := 1) (by kernel_rfl) (Up_api_Ask_IP (⟨x455, z_api_Ask.IP, z_api_Ask.Mac, z_api_Ask.Try⟩ : api_Ask) x457) (Filled.cons (cd := ((cI .u8).arr 6)) (q := x459) (o := 18) (by kernel_rfl) (Up_api_Ask_Mac (⟨x455, x457, z_api_Ask.Mac, z_api_Ask.Try⟩ : api_Ask) x459) (Filled.cons (cd := (cI .i64)) (q := x461) (o := 24) (by kernel_rfl) (Up_api_Ask_Try (⟨x455, x457, x459, z_api_Ask.Try⟩ : api_Ask) x461) Filled.nil)))) ?_
              refine OJ.rowSlot (d := 138) (t := 50) (parts := [(0, .tmp 137)]) (ps := [(0, c_api_Ask.val (⟨x455, x457, x459, x461⟩ : api_Ask))]) (cd := c_api_Ask) (⟨[(⟨x455, x457, x459, x461⟩ : api_Ask)], rfl⟩ : Vec api_Ask 1) (owed := []) Ty111 (Filled.cons (cd := c_api_Ask) (q := (⟨x455, x457, x459, x461⟩ : api_Ask)) (o := 0) rfl (Upd.arr (i := 0) (by decide) (by decide)) Filled.nil) (fun b462 => ?_)
              refine OW.nil ?_
              refine OJ.appl (d := 139) (t := 50) (u := 50) (so := .tmp 118) (xo := .tmp 138) (j := 0) (b := b462) (l := (c_api_Ask.arr 1).enc (⟨[(⟨x455, x457, x459, x461⟩ : api_Ask)], rfl⟩ : Vec api_Ask 1)) (n := 1) (k := 1) [(⟨x455, x457, x459, x461⟩ : api_Ask)] (owed := []) Ty111 (by rfl) (Cod.arr_enc _ _ _) (by rfl) (fun r463 => ?_)
              refine OW.nil ?_
              refine OJ.go 1 [(4, Sl.v r463)] ?_
              refine OJ.nil ?_
              refine SJ.inBlock ?_
              refine SJ.inBlock ?_
              refine SJ.rg 2 ?_
              refine OJ.go 2 [(11, .int .i64 (IntKind.wrap .i64 (s4 + 1))), (140, .int .i64 (IntKind.wrap .i64 (s4 + 1)))] ?_
              refine OJ.nil ?_
              refine SJ.forget (List.Sublist.cons _ List.Sublist.slnil) ?_
              exact SJ.at_ [0, 4, 5, 9, 10, 11] rfl
            · refine SJ.seq ?_
              refine SJ.draw (id := 8) (kd := [0, 0, 0, 1, 0, 0, 0, 1, 2]) (bef := [0, 1, 3, 7, 0, 16, 48, 112, 255]) (ord := [0, 1, 2, 3, 4, 5, 6, 7, 8]) mixed ?_
              refine OJ.go 1 [(34, .pointer a0)] ?_
              refine OJ.nilck (d := 35) (y := .tmp 34) (fun p464 => ?_)
              refine OJ.go 1 [(36, .pointer (some (Addr.add p464 5)))] ?_
              refine OJ.ld (d := 37) (y := .tmp 36) (pend2 := fun x465 => [⟨3, 101, (Addr.add p464 5), cM.val x465⟩]) Ty101 (fun _ => rfl) (fun x465 => ?_)
              refine OJ.go 1 [(38, .pointer x243)] ?_
              refine OJ.nilck (d := 39) (y := .tmp 38) (fun p466 => ?_)
              refine OJ.go 1 [(40, .pointer (some p466))] ?_
              refine OJ.ld (d := 41) (y := .tmp 40) (pend2 := fun x467 => [⟨7, 99, p466, c_neigh_key.val x467⟩, ⟨3, 101, (Addr.add p464 5), cM.val x465⟩]) Ty99 (fun _ => rfl) (fun x467 => ?_)
              refine OJ.mdel (uT := 99) (x := .tmp 37) (y := .tmp 41) (owed := []) Kt101 ?_
              refine OW.nil ?_
              refine OJ.nil ?_
              refine SJ.rg 7 ?_
              refine OJ.go 2 [(43, .pointer x243), (42, Sl.v s3)] ?_
              refine OJ.nilck (d := 44) (y := .tmp 43) (fun p468 => ?_)
              refine OJ.go 1 [(45, .pointer (some (Addr.add p468 27)))] ?_
              refine OJ.ld (d := 46) (y := .tmp 45) (pend2 := fun x469 => []) Ty43 (fun _ => rfl) (fun x469 => ?_)
              refine OJ.appS (d := 47) (t := 43) (u := 43) (so := .tmp 42) (xo := .tmp 46) (owed := []) Ty3 (fun r470 => ?_)
              refine OW.nil ?_
              refine OJ.go 1 [(5, Sl.v r470)] ?_
              refine OJ.nil ?_
              refine SJ.inBlock ?_
              refine SJ.inBlock ?_
              refine SJ.rg 2 ?_
              refine OJ.go 2 [(11, .int .i64 (IntKind.wrap .i64 (s4 + 1))), (140, .int .i64 (IntKind.wrap .i64 (s4 + 1)))] ?_
              refine OJ.nil ?_
              exact SJ.at_ [0, 4, 5, 9, 10, 11] rfl
noncomputable def neigh_Cache_Tick.L1 (a0 : (Option Addr)) (r1 : Sl) (s2 : Sl) (s3 : Sl) (s4 : Int) : M (LS (Sl × Sl × Int) (Sl × Sl)) :=
  if s4 < (r1.len : Int) then
    idx r1.a r1.len s4 1 >>= fun p242 =>
    ld cP p242 >>= fun x243 =>
    nilck x243 >>= fun p244 =>
    ld (cI .i64) (Addr.add p244 24) >>= fun x245 =>
    (if x245 ≠ 3 then
        pure true
      else
        nilck x243 >>= fun p246 =>
        ld (cI .i64) (Addr.add p246 25) >>= fun x247 =>
        pure (decide (x247 < 1048576))) >>= fun y248 =>
    if y248 = true then
      nilck x243 >>= fun p474 =>
      ld (cI .i64) (Addr.add p474 25) >>= fun x475 =>
      nilck x243 >>= fun p476 =>
      st (cI .i64) (Addr.add p476 25) (IntKind.wrap .i64 (x475 + 1)) >>= fun _ =>
      neigh_Cache_Tick.K1 a0 s2 s3 s4 x243
    else
      neigh_Cache_Tick.K1 a0 s2 s3 s4 x243
  else
    pure (LS.done (s2, s3))
theorem neigh_Cache_Tick.L1_ok (a0 : (Option Addr)) (r1 : Sl) (s2 : Sl) (s3 : Sl) (s4 : Int) :
    SJ neigh_Cache_Tick.cx [.code (c1 (c1 (c2 (c1 (c2 (c2 (c2 neigh_Cache_Tick.B))))))), .inLoop (c1 (c1 (c2 (c1 (c2 (c2 (c2 neigh_Cache_Tick.B))))))), .inBlock 0, .code (c2 (c2 (c2 (c2 neigh_Cache_Tick.B))))] [(0, .pointer a0), (4, Sl.v s2), (5, Sl.v s3), (9, Sl.v r1), (10, .int .i64 (r1.len : Int)), (11, .int .i64 s4)] [] (neigh_Cache_Tick.L1 a0 r1 s2 s3 s4) (neigh_Cache_Tick.F1 a0 r1) := by
  unfold neigh_Cache_Tick.L1
  refine SJ.sr 1 ?_
  refine OJ.go 1 [(12, .bool (decide (s4 < (r1.len : Int))))] ?_
  refine OJ.nil ?_
  refine SJ.seq ?_
  refine SJ.cond (t := (.tmp 12)) (b := decide (s4 < (r1.len : Int))) decide_eq_true_iff (fun hc478 => ?_) (fun hc478 => ?_)
  · refine SJ.skip ?_
    refine SJ.seq ?_
    refine SJ.block (id := 1) ?_
    refine SJ.sr 3 ?_
    refine OJ.idxS (d := 13) (T := 108) (y := .tmp 9) (j := .tmp 11) (E := 100) (cap := r1.cap) (k := .i64) (fun p242 => ?_)
    refine OJ.ld (d := 14) (y := .tmp 13) (pend2 := fun x243 => []) Ty100 (fun _ => rfl) (fun x243 => ?_)
    refine OJ.go 1 [(7, .pointer x243)] ?_
    refine OJ.nil ?_
    refine SJ.seq ?_
    refine SJ.sr 12 ?_
    refine OJ.go 1 [(15, .pointer x243)] ?_
    refine OJ.nilck (d := 16) (y := .tmp 15) (fun p244 => ?_)
    refine OJ.go 1 [(17, .pointer (some (Addr.add p244 24)))] ?_
    refine OJ.ld (d := 18) (y := .tmp 17) (pend2 := fun x245 => []) Ty3 (fun _ => rfl) (fun x245 => ?_)
    refine OJ.go 2 [(20, .bool (x245 != 3)), (19, .bool (x245 != 3))] ?_
    refine OJ.join (b := (x245 != 3)) [6, 7, 8, 9, 10, 11] [] [0, 4, 5, 9, 10, 11, 7, 26] (fun y248 => [(0, .pointer a0), (4, Sl.v s2), (5, Sl.v s3), (9, Sl.v r1), (10, .int .i64 (r1.len : Int)), (11, .int .i64 s4), (7, .pointer x243), (26, .bool y248)]) [] [] (t := 20) bne_iff_ne (fun hp_ => ?_) (fun hp_ => ?_) (fun _ _ _ _ _ _ h_ => h_) (fun y248 => ?_)
    · refine OJ.go 6 [(26, .bool true), (25, undef), (24, undef), (23, undef), (22, undef), (21, undef)] ?_
      exact OJ.nil ⟨(Cov.mem Cov.nil), rfl, _, rfl, by kernel_rfl⟩
    · refine OJ.go 1 [(21, .pointer x243)] ?_
      refine OJ.nilck (d := 22) (y := .tmp 21) (fun p246 => ?_)
      refine OJ.go 1 [(23, .pointer (some (Addr.add p246 25)))] ?_
      refine OJ.ld (d := 24) (y := .tmp 23) (pend2 := fun x247 => []) Ty3 (fun _ => rfl) (fun x247 => ?_)
      refine OJ.go 2 [(26, .bool (decide (x247 < 1048576))), (25, .bool (decide (x247 < 1048576)))] ?_
      exact OJ.nil ⟨(Cov.mem Cov.nil), rfl, _, rfl, by kernel_rfl⟩
    · refine OJ.nil ?_
      refine SJ.cond (t := (.tmp 26)) (b := y248) Iff.rfl (fun hc477 => ?_) (fun hc477 => ?_)
      · refine SJ.rg 8 ?_
        refine OJ.go 1 [(27, .pointer x243)] ?_
        refine OJ.nilck (d := 28) (y := .tmp 27) (fun p474 => ?_)
        refine OJ.go 1 [(29, .pointer (some (Addr.add p474 25)))] ?_
        refine OJ.ld (d := 30) (y := .tmp 29) (pend2 := fun x475 => []) Ty3 (fun _ => rfl) (fun x475 => ?_)
        refine OJ.go 1 [(31, .int .i64 (IntKind.wrap .i64 (x475 + 1)))] ?_
        refine OJ.nilck (d := 32) (y := .tmp 27) (fun p476 => ?_)
        refine OJ.go 1 [(33, .pointer (some (Addr.add p476 25)))] ?_
        refine OJ.st (y := .tmp 33) (z := .tmp 31) (owed := []) Ty3 ?_
        refine OW.nil ?_
        refine OJ.nil ?_
        refine SJ.less [0, 4, 5, 9, 10, 11, 7] (m' := [(0, .pointer a0), (4, Sl.v s2), (5, Sl.v s3), (9, Sl.v r1), (10, .int .i64 (r1.len : Int)), (11, .int .i64 s4), (7, .pointer x243)]) ?_
        exact neigh_Cache_Tick.K1_ok a0 r1 s2 s3 s4 x243
      · refine SJ.skip ?_
        refine SJ.less [0, 4, 5, 9, 10, 11, 7] (m' := [(0, .pointer a0), (4, Sl.v s2), (5, Sl.v s3), (9, Sl.v r1), (10, .int .i64 (r1.len : Int)), (11, .int .i64 s4), (7, .pointer x243)]) ?_
        exact neigh_Cache_Tick.K1_ok a0 r1 s2 s3 s4 x243
  · refine SJ.exit (id := 0) (by rfl) ?_
    refine SJ.sr 4 ?_
    refine OJ.go 4 [(3, Sl.v s3), (2, Sl.v s2), (142, Sl.v s3), (141, Sl.v s2)] ?_
    refine OJ.nil ?_
    exact SJ.ret rfl (Res.run (ys := [Sl.v s2, Sl.v s3]) (.tmp (by kernel_rfl) (.tmp (by kernel_rfl) .nil)) rfl)
noncomputable def neigh_Cache_Tick (a0 : (Option Addr)) : M (Sl × Sl) :=
  neigh_Cache_sorted a0 >>= fun r1 =>
  loopM (fun s_ : (Sl × Sl × Int) => neigh_Cache_Tick.L1 a0 r1 s_.1 s_.2.1 s_.2.2) (Sl.nil, Sl.nil, 0)
theorem neigh_Cache_Tick_ok (a0 : (Option Addr)) : Ref Try.prog 21 [.pointer a0] (neigh_Cache_Tick a0) neigh_Cache_Tick.out := by
  refine Ref.of (cd := neigh_Cache_Tick.B) Try.func21 ?_
  show SJ neigh_Cache_Tick.cx [.code neigh_Cache_Tick.B] [(0, .pointer a0)] [] (neigh_Cache_Tick a0) neigh_Cache_Tick.F0
  unfold neigh_Cache_Tick
  refine SJ.sr 2 ?_
  refine OJ.go 2 [(3, Sl.v Sl.nil), (2, Sl.v Sl.nil)] ?_
  refine OJ.nil ?_
  refine SJ.sr 1 ?_
  refine OJ.go 1 [(4, Sl.v Sl.nil)] ?_
  refine OJ.nil ?_
  refine SJ.sr 1 ?_
  refine OJ.go 1 [(5, Sl.v Sl.nil)] ?_
  refine OJ.nil ?_
  refine SJ.seq ?_
  refine SJ.sr 4 ?_
  refine OJ.go 1 [(8, .pointer a0)] ?_
  refine OJ.call (d := 9) (g := 50) (ats := #[25]) (args := [.tmp 8]) (owed := []) F50 (neigh_Cache_sorted_ok a0) (fun r1 => ?_)
  refine OW.nil ?_
  refine OJ.go 2 [(11, .int .i64 0), (10, .int .i64 (r1.len : Int))] ?_
  refine OJ.nil ?_
  refine SJ.block (id := 0) ?_
  exact SJ.loop (fun s_ : (Sl × Sl × Int) => [(0, .pointer a0), (4, Sl.v s_.1), (5, Sl.v s_.2.1), (9, Sl.v r1), (10, .int .i64 (r1.len : Int)), (11, .int .i64 s_.2.2)]) (fun s_ : (Sl × Sl × Int) => []) [0, 4, 5, 9, 10, 11] rfl (fun _ _ => rfl) (fun s_ => neigh_Cache_Tick.L1_ok a0 r1 s_.1 s_.2.1 s_.2.2)

/-! ### weir/weirlaw15.due: function 22 -/
noncomputable def weirlaw15_due.B : Code := (Try.f22.body).getD .skip
noncomputable def weirlaw15_due.cx : Fx := ⟨Try.prog, 22, Try.f22⟩
noncomputable def weirlaw15_due.out (r_ : Bool) : Value := .bool r_
noncomputable def weirlaw15_due.F0 (r_ : Bool) : Reach := .ret (weirlaw15_due.out r_)
noncomputable def weirlaw15_due.F1 (a0 : (Option Addr)) (a1 : api_NeighConfig) (a2 : Sl) (a3 : Sl) (a4 : Int) (b1 : Nat) : (LS (Int × Int) Bool) → Reach := loopF [.inLoop (c1 (c1 (c2 (c1 (c2 (c2 weirlaw15_due.B)))))), .inBlock 0, .code (c2 (c2 (c2 weirlaw15_due.B)))] (fun s_ : (Int × Int) => [(0, .pointer a0), (2, Sl.v a2), (3, Sl.v a3), (4, .int .i64 a4), (6, .pointer (some (pt b1 0))), (11, .int .i64 s_.1), (12, .int .i64 s_.2)]) (fun s_ : (Int × Int) => [(b1, c_api_NeighConfig.enc a1)]) weirlaw15_due.F0
noncomputable def weirlaw15_due.L1 (a0 : (Option Addr)) (a1 : api_NeighConfig) (a2 : Sl) (a3 : Sl) (a4 : Int) (s2 : Int) (s3 : Int) : M (LS (Int × Int) Bool) :=
  if s3 < (a2.len : Int) then
    draw >>= fun _ =>
    idx a2.a a2.len s3 21 >>= fun p48 =>
    ld (cI .i64) p48 >>= fun x49 =>
    idx a2.a a2.len s3 21 >>= fun p50 =>
    ld c_api_IP (Addr.add p50 1) >>= fun x51 =>
    weirlaw15_asking a0 x49 x51 >>= fun r52 =>
    idx a2.a a2.len s3 21 >>= fun p53 =>
    ld (cI .i64) (Addr.add p53 20) >>= fun x54 =>
    if x54 = 0 then
      if r52 = true then
        pure (LS.done false)
      else
        pure (LS.next (s2, IntKind.wrap .i64 (s3 + 1)))
    else
      draw >>= fun _ =>
      idx a2.a a2.len s3 21 >>= fun p57 =>
      ld (cI .i64) (Addr.add p57 19) >>= fun x58 =>
      draw >>= fun _ =>
      idx a2.a a2.len s3 21 >>= fun p59 =>
      ld (cI .i64) (Addr.add p59 19) >>= fun x60 =>
      (if (IntKind.wrap .i64 (a4 - x60)) > a1.Every then
          pure true
        else
          (if (IntKind.wrap .i64 (a4 - x58)) = a1.Every then
              idx a2.a a2.len s3 21 >>= fun p61 =>
              ld (cI .i64) (Addr.add p61 20) >>= fun x62 =>
              pure (decide (x62 ≥ a1.Tries))
            else
              pure false) >>= fun y63 =>
          pure (r52 == y63)) >>= fun y64 =>
      if y64 = true then
        pure (LS.done false)
      else
        if ¬ ((IntKind.wrap .i64 (a4 - x58)) = a1.Every) then
          pure (LS.next (s2, IntKind.wrap .i64 (s3 + 1)))
        else
          if ¬ (r52 = true) then
            idx a2.a a2.len s3 21 >>= fun p66 =>
            st (cI .i64) (Addr.add p66 20) 0 >>= fun _ =>
            pure (LS.next (s2, IntKind.wrap .i64 (s3 + 1)))
          else
            draw >>= fun _ =>
            (if s2 ≥ (a3.len : Int) then
                pure true
              else
                idx a3.a a3.len s2 25 >>= fun p67 =>
                ld (cI .i64) p67 >>= fun x68 =>
                idx a2.a a2.len s3 21 >>= fun p69 =>
                ld (cI .i64) p69 >>= fun x70 =>
                pure (x68 != x70)) >>= fun y71 =>
            (if y71 = true then
                pure true
              else
                idx a3.a a3.len s2 25 >>= fun p72 =>
                ld c_api_IP (Addr.add p72 1) >>= fun x73 =>
                idx a2.a a2.len s3 21 >>= fun p74 =>
                ld c_api_IP (Addr.add p74 1) >>= fun x75 =>
                pure (!eqv x73 x75)) >>= fun y76 =>
            (if y76 = true then
                pure true
              else
                idx a3.a a3.len s2 25 >>= fun p77 =>
                ld (cI .i64) (Addr.add p77 24) >>= fun x78 =>
                idx a2.a a2.len s3 21 >>= fun p79 =>
                ld (cI .i64) (Addr.add p79 20) >>= fun x80 =>
                pure (x78 != (IntKind.wrap .i64 (x80 + 1)))) >>= fun y81 =>
            if y81 = true then
              pure (LS.done false)
            else
              idx a2.a a2.len s3 21 >>= fun p82 =>
              st (cI .i64) (Addr.add p82 19) a4 >>= fun _ =>
              idx a2.a a2.len s3 21 >>= fun p83 =>
              ld (cI .i64) (Addr.add p83 20) >>= fun x84 =>
              idx a2.a a2.len s3 21 >>= fun p85 =>
              st (cI .i64) (Addr.add p85 20) (IntKind.wrap .i64 (x84 + 1)) >>= fun _ =>
              pure (LS.next (IntKind.wrap .i64 (s2 + 1), IntKind.wrap .i64 (s3 + 1)))
  else
    pure (LS.done (s2 == (a3.len : Int)))
theorem weirlaw15_due.L1_ok (a0 : (Option Addr)) (a1 : api_NeighConfig) (a2 : Sl) (a3 : Sl) (a4 : Int) (b1 : Nat) (s2 : Int) (s3 : Int) :
    SJ weirlaw15_due.cx [.code (c1 (c1 (c2 (c1 (c2 (c2 weirlaw15_due.B)))))), .inLoop (c1 (c1 (c2 (c1 (c2 (c2 weirlaw15_due.B)))))), .inBlock 0, .code (c2 (c2 (c2 weirlaw15_due.B)))] [(0, .pointer a0), (2, Sl.v a2), (3, Sl.v a3), (4, .int .i64 a4), (6, .pointer (some (pt b1 0))), (11, .int .i64 s2), (12, .int .i64 s3)] [(b1, c_api_NeighConfig.enc a1)] (weirlaw15_due.L1 a0 a1 a2 a3 a4 s2 s3) (weirlaw15_due.F1 a0 a1 a2 a3 a4 b1) := by
  unfold weirlaw15_due.L1
  refine SJ.seq ?_
  refine SJ.sr 4 ?_
  refine OJ.go 4 [(18, .bool (decide (s3 < (a2.len : Int)))), (17, .int .i64 (a2.len : Int)), (16, Sl.v a2), (15, .int .i64 s3)] ?_
  refine OJ.nil ?_
  refine SJ.cond (t := (.tmp 18)) (b := decide (s3 < (a2.len : Int))) decide_eq_true_iff (fun hc91 => ?_) (fun hc91 => ?_)
  · refine SJ.skip ?_
    refine SJ.seq ?_
    refine SJ.block (id := 1) ?_
    refine SJ.seq ?_
    refine SJ.draw (id := 5) (kd := [0, 0, 0, 0, 0, 1, 0, 0, 0, 0, 1, 2, 0]) (bef := [0, 0, 0, 6, 14, 30, 0, 0, 192, 448, 960, 2047, 4095]) (ord := [0, 1, 2, 3, 4, 5, 6, 7, 8, 9, 10, 11, 12]) mixed ?_
    refine OJ.go 3 [(23, .int .i64 s3), (22, Sl.v a2), (21, .pointer a0)] ?_
    refine OJ.idxS (d := 24) (T := 29) (y := .tmp 22) (j := .tmp 23) (E := 45) (cap := a2.cap) (k := .i64) (fun p48 => ?_)
    refine OJ.go 1 [(25, .pointer (some p48))] ?_
    refine OJ.ld (d := 26) (y := .tmp 25) (pend2 := fun x49 => [⟨5, 3, p48, (cI .i64).val x49⟩]) Ty3 (fun _ => rfl) (fun x49 => ?_)
    refine OJ.go 2 [(28, .int .i64 s3), (27, Sl.v a2)] ?_
    refine OJ.idxS (d := 29) (T := 29) (y := .tmp 27) (j := .tmp 28) (E := 45) (cap := a2.cap) (k := .i64) (fun p50 => ?_)
    refine OJ.go 1 [(30, .pointer (some (Addr.add p50 1)))] ?_
    refine OJ.ld (d := 31) (y := .tmp 30) (pend2 := fun x51 => [⟨10, 32, (Addr.add p50 1), c_api_IP.val x51⟩, ⟨5, 3, p48, (cI .i64).val x49⟩]) Ty32 (fun _ => rfl) (fun x51 => ?_)
    refine OJ.call (d := 32) (g := 20) (ats := #[25, 3, 32]) (args := [.tmp 21, .tmp 26, .tmp 31]) (owed := []) F20 (weirlaw15_asking_ok a0 x49 x51) (fun r52 => ?_)
    refine OW.nil ?_
    refine OJ.go 1 [(13, .bool r52)] ?_
    refine OJ.nil ?_
    refine SJ.seq ?_
    refine SJ.sr 6 ?_
    refine OJ.go 2 [(34, .int .i64 s3), (33, Sl.v a2)] ?_
    refine OJ.idxS (d := 35) (T := 29) (y := .tmp 33) (j := .tmp 34) (E := 45) (cap := a2.cap) (k := .i64) (fun p53 => ?_)
    refine OJ.go 1 [(36, .pointer (some (Addr.add p53 20)))] ?_
    refine OJ.ld (d := 37) (y := .tmp 36) (pend2 := fun x54 => []) Ty3 (fun _ => rfl) (fun x54 => ?_)
    refine OJ.go 1 [(38, .bool (x54 == 0))] ?_
    refine OJ.nil ?_
    refine SJ.cond (t := (.tmp 38)) (b := (x54 == 0)) beq_iff_eq (fun hc90 => ?_) (fun hc90 => ?_)
    · refine SJ.seq ?_
      refine SJ.sr 1 ?_
      refine OJ.go 1 [(39, .bool r52)] ?_
      refine OJ.nil ?_
      refine SJ.cond (t := (.tmp 39)) (b := r52) Iff.rfl (fun hc56 => ?_) (fun hc56 => ?_)
      · refine SJ.sr 1 ?_
        refine OJ.go 1 [(10, .bool false)] ?_
        refine OJ.nil ?_
        exact SJ.ret rfl (Res.run (ys := [.bool false]) (.tmp (by kernel_rfl) .nil) rfl)
      · refine SJ.skip ?_
        refine SJ.exit (id := 1) (by rfl) ?_
        refine SJ.rg 3 ?_
        refine OJ.go 3 [(12, .int .i64 (IntKind.wrap .i64 (s3 + 1))), (20, .int .i64 (IntKind.wrap .i64 (s3 + 1))), (19, .int .i64 s3)] ?_
        refine OJ.nil ?_
        exact SJ.at_ [0, 2, 3, 4, 6, 11, 12] rfl
    · refine SJ.skip ?_
      refine SJ.seq ?_
      refine SJ.draw (id := 9) (kd := [0, 0, 0, 0, 0, 1, 0, 0, 1, 0, 0]) (bef := [0, 0, 0, 6, 14, 30, 63, 0, 128, 511, 1023]) (ord := [0, 1, 2, 3, 4, 5, 6, 7, 8, 9, 10]) mixed ?_
      refine OJ.go 3 [(42, .int .i64 s3), (41, Sl.v a2), (40, .int .i64 a4)] ?_
      refine OJ.idxS (d := 43) (T := 29) (y := .tmp 41) (j := .tmp 42) (E := 45) (cap := a2.cap) (k := .i64) (fun p57 => ?_)
      refine OJ.go 1 [(44, .pointer (some (Addr.add p57 19)))] ?_
      refine OJ.ld (d := 45) (y := .tmp 44) (pend2 := fun x58 => [⟨5, 3, (Addr.add p57 19), (cI .i64).val x58⟩]) Ty3 (fun _ => rfl) (fun x58 => ?_)
      refine OJ.go 2 [(47, .pointer (some (pt b1 2))), (46, .int .i64 (IntKind.wrap .i64 (a4 - x58)))] ?_
      refine OJ.kld (d := 48) (y := .tmp 47) (cd := (cI .i64)) (j := 0) (b := b1) (o := 2) a1.Every (pend2 := [⟨8, 3, (pt b1 2), (cI .i64).val a1.Every⟩, ⟨5, 3, (Addr.add p57 19), (cI .i64).val x58⟩]) Ty3 rfl (At_api_NeighConfig_Every a1) rfl ?_
      refine OJ.go 2 [(14, .bool ((IntKind.wrap .i64 (a4 - x58)) == a1.Every)), (49, .bool ((IntKind.wrap .i64 (a4 - x58)) == a1.Every))] ?_
      refine OJ.nil ?_
      refine SJ.seq ?_
      refine SJ.seq ?_
      refine SJ.draw (id := 10) (kd := [0, 0, 0, 0, 0, 1, 0, 0, 1, 0, 0, 0, 0, 0, 0, 0, 0, 0, 1, 0, 1, 0, 0, 0, 0]) (bef := [0, 0, 0, 6, 14, 30, 63, 0, 128, 511, 1023, 2047, 2047, 6143, 14335, 14335, 63487, 129023, 260095, 14335, 538623, 2095103, 4192255, 8388607, 16777215]) (ord := [0, 1, 2, 3, 4, 5, 6, 7, 8, 9, 10, 11, 12, 13, 14, 15, 16, 17, 18, 19, 20, 21, 22, 23, 24]) mixed ?_
      refine OJ.go 3 [(52, .int .i64 s3), (51, Sl.v a2), (50, .int .i64 a4)] ?_
      refine OJ.idxS (d := 53) (T := 29) (y := .tmp 51) (j := .tmp 52) (E := 45) (cap := a2.cap) (k := .i64) (fun p59 => ?_)
      refine OJ.go 1 [(54, .pointer (some (Addr.add p59 19)))] ?_
      refine OJ.ld (d := 55) (y := .tmp 54) (pend2 := fun x60 => [⟨5, 3, (Addr.add p59 19), (cI .i64).val x60⟩]) Ty3 (fun _ => rfl) (fun x60 => ?_)
      refine OJ.go 2 [(57, .pointer (some (pt b1 2))), (56, .int .i64 (IntKind.wrap .i64 (a4 - x60)))] ?_
      refine OJ.kld (d := 58) (y := .tmp 57) (cd := (cI .i64)) (j := 0) (b := b1) (o := 2) a1.Every (pend2 := [⟨8, 3, (pt b1 2), (cI .i64).val a1.Every⟩, ⟨5, 3, (Addr.add p59 19), (cI .i64).val x60⟩]) Ty3 rfl (At_api_NeighConfig_Every a1) rfl ?_
      refine OJ.go 2 [(60, .bool (decide ((IntKind.wrap .i64 (a4 - x60)) > a1.Every))), (59, .bool (decide ((IntKind.wrap .i64 (a4 - x60)) > a1.Every)))] ?_
      refine OJ.join (b := decide ((IntKind.wrap .i64 (a4 - x60)) > a1.Every)) [11, 12, 13, 14, 15, 16, 17, 18, 19, 20, 21, 22, 23, 24] [] [0, 2, 3, 4, 6, 11, 12, 13, 14, 74] (fun y64 => [(0, .pointer a0), (2, Sl.v a2), (3, Sl.v a3), (4, .int .i64 a4), (6, .pointer (some (pt b1 0))), (11, .int .i64 s2), (12, .int .i64 s3), (13, .bool r52), (14, .bool ((IntKind.wrap .i64 (a4 - x58)) == a1.Every)), (74, .bool y64)]) [⟨20, 3, (pt b1 3), (cI .i64).val a1.Tries⟩, ⟨8, 3, (pt b1 2), (cI .i64).val a1.Every⟩, ⟨5, 3, (Addr.add p59 19), (cI .i64).val x60⟩] [18] (t := 60) decide_eq_true_iff (fun hp_ => ?_) (fun hp_ => ?_) (fun _ _ _ _ _ _ h_ => h_) (fun y64 => ?_)
      · refine OJ.go 14 [(74, .bool true), (73, undef), (72, undef), (71, undef), (70, undef), (69, undef), (68, undef), (67, undef), (66, undef), (65, undef), (64, undef), (63, undef), (62, undef), (61, undef)] ?_
        exact OJ.nil ⟨(Cov.mem (Cov.keep (List.mem_of_getElem? (i := 1) rfl) (Cov.keep (List.mem_of_getElem? (i := 2) rfl) Cov.nil))), rfl, _, rfl, by kernel_rfl⟩
      · refine OJ.go 3 [(63, .bool ((IntKind.wrap .i64 (a4 - x58)) == a1.Every)), (62, .bool ((IntKind.wrap .i64 (a4 - x58)) == a1.Every)), (61, .bool r52)] ?_
        refine OJ.join (b := ((IntKind.wrap .i64 (a4 - x58)) == a1.Every)) [14, 15, 16, 17, 18, 19, 20, 21, 22] [23, 24] [0, 2, 3, 4, 6, 11, 12, 13, 14, 60, 61, 72] (fun y63 => [(0, .pointer a0), (2, Sl.v a2), (3, Sl.v a3), (4, .int .i64 a4), (6, .pointer (some (pt b1 0))), (11, .int .i64 s2), (12, .int .i64 s3), (13, .bool r52), (14, .bool ((IntKind.wrap .i64 (a4 - x58)) == a1.Every)), (60, .bool false), (61, .bool r52), (72, .bool y63)]) [⟨20, 3, (pt b1 3), (cI .i64).val a1.Tries⟩, ⟨8, 3, (pt b1 2), (cI .i64).val a1.Every⟩, ⟨5, 3, (Addr.add p59 19), (cI .i64).val x60⟩] [18] (t := 63) beq_iff_eq (fun hp_ => ?_) (fun hp_ => ?_) (fun _ _ _ _ _ hq_ h_ => ⟨fun e_ he_ => by rcases hq_ e_ he_ with h | h; exact h_.1 e_ h; exact .inr ((by decide : ∀ i ∈ [18], i ∈ [18]) _ h), h_.2⟩) (fun y63 => ?_)
        · refine OJ.go 2 [(65, .int .i64 s3), (64, Sl.v a2)] ?_
          refine OJ.idxS (d := 66) (T := 29) (y := .tmp 64) (j := .tmp 65) (E := 45) (cap := a2.cap) (k := .i64) (fun p61 => ?_)
          refine OJ.go 1 [(67, .pointer (some (Addr.add p61 20)))] ?_
          refine OJ.ld (d := 68) (y := .tmp 67) (pend2 := fun x62 => [⟨18, 3, (Addr.add p61 20), (cI .i64).val x62⟩, ⟨8, 3, (pt b1 2), (cI .i64).val a1.Every⟩, ⟨5, 3, (Addr.add p59 19), (cI .i64).val x60⟩]) Ty3 (fun _ => rfl) (fun x62 => ?_)
          refine OJ.go 1 [(69, .pointer (some (pt b1 3)))] ?_
          refine OJ.kld (d := 70) (y := .tmp 69) (cd := (cI .i64)) (j := 0) (b := b1) (o := 3) a1.Tries (pend2 := [⟨20, 3, (pt b1 3), (cI .i64).val a1.Tries⟩, ⟨18, 3, (Addr.add p61 20), (cI .i64).val x62⟩, ⟨8, 3, (pt b1 2), (cI .i64).val a1.Every⟩, ⟨5, 3, (Addr.add p59 19), (cI .i64).val x60⟩]) Ty3 rfl (At_api_NeighConfig_Tries a1) rfl ?_
          refine OJ.go 2 [(72, .bool (decide (x62 ≥ a1.Tries))), (71, .bool (decide (x62 ≥ a1.Tries)))] ?_
          exact OJ.nil ⟨(Cov.mem (Cov.keep (List.mem_of_getElem? (i := 0) rfl) (Cov.drop (List.mem_of_getElem? (i := 0) rfl) (Cov.keep (List.mem_of_getElem? (i := 1) rfl) (Cov.keep (List.mem_of_getElem? (i := 2) rfl) Cov.nil))))), rfl, _, rfl, by kernel_rfl⟩
        · refine OJ.go 9 [(72, .bool false), (71, undef), (70, undef), (69, undef), (68, undef), (67, undef), (66, undef), (65, undef), (64, undef)] ?_
          exact OJ.nil ⟨(Cov.mem (Cov.keep (List.mem_of_getElem? (i := 1) rfl) (Cov.keep (List.mem_of_getElem? (i := 2) rfl) Cov.nil))), rfl, _, rfl, by kernel_rfl⟩
        · refine OJ.go 2 [(74, .bool (r52 == y63)), (73, .bool (r52 == y63))] ?_
          exact OJ.nil ⟨(Cov.mem (Cov.keep (List.mem_of_getElem? (i := 0) rfl) (Cov.keep (List.mem_of_getElem? (i := 1) rfl) (Cov.keep (List.mem_of_getElem? (i := 2) rfl) Cov.nil)))), rfl, _, rfl, by kernel_rfl⟩
      · refine OJ.nil ?_
        refine SJ.cond (t := (.tmp 74)) (b := y64) Iff.rfl (fun hc89 => ?_) (fun hc89 => ?_)
        · refine SJ.sr 1 ?_
          refine OJ.go 1 [(10, .bool false)] ?_
          refine OJ.nil ?_
          exact SJ.ret rfl (Res.run (ys := [.bool false]) (.tmp (by kernel_rfl) .nil) rfl)
        · refine SJ.skip ?_
          refine SJ.seq ?_
          refine SJ.sr 2 ?_
          refine OJ.go 2 [(76, .bool (!((IntKind.wrap .i64 (a4 - x58)) == a1.Every))), (75, .bool ((IntKind.wrap .i64 (a4 - x58)) == a1.Every))] ?_
          refine OJ.nil ?_
          refine SJ.cond (t := (.tmp 76)) (b := (!((IntKind.wrap .i64 (a4 - x58)) == a1.Every))) (bnot_iff beq_iff_eq) (fun hc88 => ?_) (fun hc88 => ?_)
          · refine SJ.exit (id := 1) (by rfl) ?_
            refine SJ.rg 3 ?_
            refine OJ.go 3 [(12, .int .i64 (IntKind.wrap .i64 (s3 + 1))), (20, .int .i64 (IntKind.wrap .i64 (s3 + 1))), (19, .int .i64 s3)] ?_
            refine OJ.nil ?_
            exact SJ.at_ [0, 2, 3, 4, 6, 11, 12] rfl
          · refine SJ.skip ?_
            refine SJ.seq ?_
            refine SJ.sr 2 ?_
            refine OJ.go 2 [(78, .bool (!r52)), (77, .bool r52)] ?_
            refine OJ.nil ?_
            refine SJ.cond (t := (.tmp 78)) (b := (!r52)) (bnot_iff Iff.rfl) (fun hc87 => ?_) (fun hc87 => ?_)
            · refine SJ.sr 5 ?_
              refine OJ.go 2 [(80, .int .i64 s3), (79, Sl.v a2)] ?_
              refine OJ.idxS (d := 81) (T := 29) (y := .tmp 79) (j := .tmp 80) (E := 45) (cap := a2.cap) (k := .i64) (fun p66 => ?_)
              refine OJ.go 1 [(82, .pointer (some (Addr.add p66 20)))] ?_
              refine OJ.st (y := .tmp 82) (z := .const (.int .i64 0)) (owed := []) Ty3 ?_
              refine OW.nil ?_
              refine OJ.nil ?_
              refine SJ.exit (id := 1) (by rfl) ?_
              refine SJ.rg 3 ?_
              refine OJ.go 3 [(12, .int .i64 (IntKind.wrap .i64 (s3 + 1))), (20, .int .i64 (IntKind.wrap .i64 (s3 + 1))), (19, .int .i64 s3)] ?_
              refine OJ.nil ?_
              exact SJ.at_ [0, 2, 3, 4, 6, 11, 12] rfl
            · refine SJ.skip ?_
              refine SJ.seq ?_
              refine SJ.seq ?_
              refine SJ.draw (id := 15) (kd := [0, 0, 0, 0, 0, 0, 0, 0, 0, 1, 0, 0, 0, 0, 1, 0, 0, 0, 0, 0, 0, 0, 1, 0, 0, 0, 0, 1, 0, 0, 0, 0, 0, 0, 0, 1, 0, 0, 0, 0, 1, 0, 0, 0]) (bef := [0, 0, 2, 7, 15, 31, 31, 127, 255, 511, 31, 31, 3103, 7199, 15391, 32767, 65535, 131071, 262143, 262143, 1048575, 2097151, 4194303, 262143, 262143, 25427967, 58982399, 126091263, 268435455, 536870911, 1073741823, 2147483647, 2147483647, 8589934591, 17179869183, 34359738367, 2147483647, 2147483647, 208305913855, 483183820799, 1032939634687, 2132451262463, 4398046511103, 8796093022207]) (ord := [0, 1, 2, 3, 4, 5, 6, 7, 8, 9, 10, 11, 12, 13, 14, 15, 16, 17, 18, 19, 20, 21, 22, 23, 24, 25, 26, 27, 28, 29, 30, 31, 32, 33, 34, 35, 36, 37, 38, 39, 40, 41, 42, 43]) mixed ?_
              refine OJ.go 5 [(87, .bool (decide (s2 ≥ (a3.len : Int)))), (86, .bool (decide (s2 ≥ (a3.len : Int)))), (85, .int .i64 (a3.len : Int)), (84, Sl.v a3), (83, .int .i64 s2)] ?_
              refine OJ.join (b := decide (s2 ≥ (a3.len : Int))) [5, 6, 7, 8, 9, 10, 11, 12, 13, 14, 15, 16] [17, 18, 19, 20, 21, 22, 23, 24, 25, 26, 27, 28, 29, 30, 31, 32, 33, 34, 35, 36, 37, 38, 39, 40, 41, 42, 43] [0, 2, 3, 4, 6, 11, 12, 99] (fun y71 => [(0, .pointer a0), (2, Sl.v a2), (3, Sl.v a3), (4, .int .i64 a4), (6, .pointer (some (pt b1 0))), (11, .int .i64 s2), (12, .int .i64 s3), (99, .bool y71)]) [] [9, 14] (t := 87) decide_eq_true_iff (fun hp_ => ?_) (fun hp_ => ?_) (fun _ _ _ _ _ _ h_ => h_) (fun y71 => ?_)
              · refine OJ.go 12 [(99, .bool true), (98, undef), (97, undef), (96, undef), (95, undef), (94, undef), (93, undef), (92, undef), (91, undef), (90, undef), (89, undef), (88, undef)] ?_
                exact OJ.nil ⟨(Cov.mem Cov.nil), rfl, _, rfl, by kernel_rfl⟩
              · refine OJ.go 2 [(89, .int .i64 s2), (88, Sl.v a3)] ?_
                refine OJ.idxS (d := 90) (T := 50) (y := .tmp 88) (j := .tmp 89) (E := 111) (cap := a3.cap) (k := .i64) (fun p67 => ?_)
                refine OJ.go 1 [(91, .pointer (some p67))] ?_
                refine OJ.ld (d := 92) (y := .tmp 91) (pend2 := fun x68 => [⟨9, 3, p67, (cI .i64).val x68⟩]) Ty3 (fun _ => rfl) (fun x68 => ?_)
                refine OJ.go 2 [(94, .int .i64 s3), (93, Sl.v a2)] ?_
                refine OJ.idxS (d := 95) (T := 29) (y := .tmp 93) (j := .tmp 94) (E := 45) (cap := a2.cap) (k := .i64) (fun p69 => ?_)
                refine OJ.go 1 [(96, .pointer (some p69))] ?_
                refine OJ.ld (d := 97) (y := .tmp 96) (pend2 := fun x70 => [⟨14, 3, p69, (cI .i64).val x70⟩, ⟨9, 3, p67, (cI .i64).val x68⟩]) Ty3 (fun _ => rfl) (fun x70 => ?_)
                refine OJ.go 2 [(99, .bool (x68 != x70)), (98, .bool (x68 != x70))] ?_
                exact OJ.nil ⟨(Cov.mem (Cov.drop (List.mem_of_getElem? (i := 1) rfl) (Cov.drop (List.mem_of_getElem? (i := 0) rfl) Cov.nil))), rfl, _, rfl, by kernel_rfl⟩
              · refine OJ.go 1 [(100, .bool y71)] ?_
                refine OJ.join (b := y71) [18, 19, 20, 21, 22, 23, 24, 25, 26, 27, 28, 29] [30, 31, 32, 33, 34, 35, 36, 37, 38, 39, 40, 41, 42, 43] [0, 2, 3, 4, 6, 11, 12, 112] (fun y76 => [(0, .pointer a0), (2, Sl.v a2), (3, Sl.v a3), (4, .int .i64 a4), (6, .pointer (some (pt b1 0))), (11, .int .i64 s2), (12, .int .i64 s3), (112, .bool y76)]) [] [22, 27] (t := 100) Iff.rfl (fun hp_ => ?_) (fun hp_ => ?_) (fun _ _ _ _ _ _ h_ => h_) (fun y76 => ?_)
                · refine OJ.go 12 [(112, .bool true), (111, undef), (110, undef), (109, undef), (108, undef), (107, undef), (106, undef), (105, undef), (104, undef), (103, undef), (102, undef), (101, undef)] ?_
                  exact OJ.nil ⟨(Cov.mem Cov.nil), rfl, _, rfl, by kernel_rfl⟩
                · refine OJ.go 2 [(102, .int .i64 s2), (101, Sl.v a3)] ?_
                  refine OJ.idxS (d := 103) (T := 50) (y := .tmp 101) (j := .tmp 102) (E := 111) (cap := a3.cap) (k := .i64) (fun p72 => ?_)
                  refine OJ.go 1 [(104, .pointer (some (Addr.add p72 1)))] ?_
                  refine OJ.ld (d := 105) (y := .tmp 104) (pend2 := fun x73 => [⟨22, 32, (Addr.add p72 1), c_api_IP.val x73⟩]) Ty32 (fun _ => rfl) (fun x73 => ?_)
                  refine OJ.go 2 [(107, .int .i64 s3), (106, Sl.v a2)] ?_
                  refine OJ.idxS (d := 108) (T := 29) (y := .tmp 106) (j := .tmp 107) (E := 45) (cap := a2.cap) (k := .i64) (fun p74 => ?_)
                  refine OJ.go 1 [(109, .pointer (some (Addr.add p74 1)))] ?_
                  refine OJ.ld (d := 110) (y := .tmp 109) (pend2 := fun x75 => [⟨27, 32, (Addr.add p74 1), c_api_IP.val x75⟩, ⟨22, 32, (Addr.add p72 1), c_api_IP.val x73⟩]) Ty32 (fun _ => rfl) (fun x75 => ?_)
                  refine OJ.neq (d := 111) (T := 32) (yT := 32) (y := .tmp 105) (z := .tmp 110) (cd := c_api_IP) (p := x73) (q := x75) rfl Eq32 ?_
                  refine OJ.go 1 [(112, .bool (!eqv x73 x75))] ?_
                  exact OJ.nil ⟨(Cov.mem (Cov.drop (List.mem_of_getElem? (i := 1) rfl) (Cov.drop (List.mem_of_getElem? (i := 0) rfl) Cov.nil))), rfl, _, rfl, by kernel_rfl⟩
                · refine OJ.go 1 [(113, .bool y76)] ?_
                  refine OJ.join (b := y76) [31, 32, 33, 34, 35, 36, 37, 38, 39, 40, 41, 42, 43] [] [0, 2, 3, 4, 6, 11, 12, 126] (fun y81 => [(0, .pointer a0), (2, Sl.v a2), (3, Sl.v a3), (4, .int .i64 a4), (6, .pointer (some (pt b1 0))), (11, .int .i64 s2), (12, .int .i64 s3), (126, .bool y81)]) [] [35, 40] (t := 113) Iff.rfl (fun hp_ => ?_) (fun hp_ => ?_) (fun _ _ _ _ _ _ h_ => h_) (fun y81 => ?_)
                  · refine OJ.go 13 [(126, .bool true), (125, undef), (124, undef), (123, undef), (122, undef), (121, undef), (120, undef), (119, undef), (118, undef), (117, undef), (116, undef), (115, undef), (114, undef)] ?_
                    exact OJ.nil ⟨(Cov.mem Cov.nil), rfl, _, rfl, by kernel_rfl⟩
                  · refine OJ.go 2 [(115, .int .i64 s2), (114, Sl.v a3)] ?_
                    refine OJ.idxS (d := 116) (T := 50) (y := .tmp 114) (j := .tmp 115) (E := 111) (cap := a3.cap) (k := .i64) (fun p77 => ?_)
                    refine OJ.go 1 [(117, .pointer (some (Addr.add p77 24)))] ?_
                    refine OJ.ld (d := 118) (y := .tmp 117) (pend2 := fun x78 => [⟨35, 3, (Addr.add p77 24), (cI .i64).val x78⟩]) Ty3 (fun _ => rfl) (fun x78 => ?_)
                    refine OJ.go 2 [(120, .int .i64 s3), (119, Sl.v a2)] ?_
                    refine OJ.idxS (d := 121) (T := 29) (y := .tmp 119) (j := .tmp 120) (E := 45) (cap := a2.cap) (k := .i64) (fun p79 => ?_)
                    refine OJ.go 1 [(122, .pointer (some (Addr.add p79 20)))] ?_
                    refine OJ.ld (d := 123) (y := .tmp 122) (pend2 := fun x80 => [⟨40, 3, (Addr.add p79 20), (cI .i64).val x80⟩, ⟨35, 3, (Addr.add p77 24), (cI .i64).val x78⟩]) Ty3 (fun _ => rfl) (fun x80 => ?_)
                    refine OJ.go 3 [(126, .bool (x78 != (IntKind.wrap .i64 (x80 + 1)))), (125, .bool (x78 != (IntKind.wrap .i64 (x80 + 1)))), (124, .int .i64 (IntKind.wrap .i64 (x80 + 1)))] ?_
                    exact OJ.nil ⟨(Cov.mem (Cov.drop (List.mem_of_getElem? (i := 1) rfl) (Cov.drop (List.mem_of_getElem? (i := 0) rfl) Cov.nil))), rfl, _, rfl, by kernel_rfl⟩
                  · refine OJ.nil ?_
                    refine SJ.cond (t := (.tmp 126)) (b := y81) Iff.rfl (fun hc86 => ?_) (fun hc86 => ?_)
                    · refine SJ.sr 1 ?_
                      refine OJ.go 1 [(10, .bool false)] ?_
                      refine OJ.nil ?_
                      exact SJ.ret rfl (Res.run (ys := [.bool false]) (.tmp (by kernel_rfl) .nil) rfl)
                    · refine SJ.skip ?_
                      refine SJ.sr 6 ?_
                      refine OJ.go 3 [(129, .int .i64 a4), (128, .int .i64 s3), (127, Sl.v a2)] ?_
                      refine OJ.idxS (d := 130) (T := 29) (y := .tmp 127) (j := .tmp 128) (E := 45) (cap := a2.cap) (k := .i64) (fun p82 => ?_)
                      refine OJ.go 1 [(131, .pointer (some (Addr.add p82 19)))] ?_
                      refine OJ.st (y := .tmp 131) (z := .tmp 129) (owed := []) Ty3 ?_
                      refine OW.nil ?_
                      refine OJ.nil ?_
                      refine SJ.sr 9 ?_
                      refine OJ.go 2 [(133, .int .i64 s3), (132, Sl.v a2)] ?_
                      refine OJ.idxS (d := 134) (T := 29) (y := .tmp 132) (j := .tmp 133) (E := 45) (cap := a2.cap) (k := .i64) (fun p83 => ?_)
                      refine OJ.go 1 [(135, .pointer (some (Addr.add p83 20)))] ?_
                      refine OJ.ld (d := 136) (y := .tmp 135) (pend2 := fun x84 => []) Ty3 (fun _ => rfl) (fun x84 => ?_)
                      refine OJ.go 1 [(137, .int .i64 (IntKind.wrap .i64 (x84 + 1)))] ?_
                      refine OJ.idxS (d := 138) (T := 29) (y := .tmp 132) (j := .tmp 133) (E := 45) (cap := a2.cap) (k := .i64) (fun p85 => ?_)
                      refine OJ.go 1 [(139, .pointer (some (Addr.add p85 20)))] ?_
                      refine OJ.st (y := .tmp 139) (z := .tmp 137) (owed := []) Ty3 ?_
                      refine OW.nil ?_
                      refine OJ.nil ?_
                      refine SJ.rg 3 ?_
                      refine OJ.go 3 [(11, .int .i64 (IntKind.wrap .i64 (s2 + 1))), (141, .int .i64 (IntKind.wrap .i64 (s2 + 1))), (140, .int .i64 s2)] ?_
                      refine OJ.nil ?_
                      refine SJ.inBlock ?_
                      refine SJ.rg 3 ?_
                      refine OJ.go 3 [(12, .int .i64 (IntKind.wrap .i64 (s3 + 1))), (20, .int .i64 (IntKind.wrap .i64 (s3 + 1))), (19, .int .i64 s3)] ?_
                      refine OJ.nil ?_
                      exact SJ.at_ [0, 2, 3, 4, 6, 11, 12] rfl
  · refine SJ.exit (id := 0) (by rfl) ?_
    refine SJ.sr 5 ?_
    refine OJ.go 5 [(10, .bool (s2 == (a3.len : Int))), (145, .bool (s2 == (a3.len : Int))), (144, .int .i64 (a3.len : Int)), (143, Sl.v a3), (142, .int .i64 s2)] ?_
    refine OJ.nil ?_
    exact SJ.ret rfl (Res.run (ys := [.bool (s2 == (a3.len : Int))]) (.tmp (by kernel_rfl) .nil) rfl)
noncomputable def weirlaw15_due (a0 : (Option Addr)) (a1 : api_NeighConfig) (a2 : Sl) (a3 : Sl) (a4 : Int) : M Bool :=
  slot 23 >>= fun b1 =>
  loopM (fun s_ : (Int × Int) => weirlaw15_due.L1 a0 a1 a2 a3 a4 s_.1 s_.2) (0, 0)
theorem weirlaw15_due_ok (a0 : (Option Addr)) (a1 : api_NeighConfig) (a2 : Sl) (a3 : Sl) (a4 : Int) : Ref Try.prog 22 [.pointer a0, c_api_NeighConfig.val a1, Sl.v a2, Sl.v a3, .int .i64 a4] (weirlaw15_due a0 a1 a2 a3 a4) weirlaw15_due.out := by
  refine Ref.of (cd := weirlaw15_due.B) Try.func22 ?_
  show SJ weirlaw15_due.cx [.code weirlaw15_due.B] [(0, .pointer a0), (1, c_api_NeighConfig.val a1), (2, Sl.v a2), (3, Sl.v a3), (4, .int .i64 a4)] [] (weirlaw15_due a0 a1 a2 a3 a4) weirlaw15_due.F0
  unfold weirlaw15_due
  refine SJ.sr 2 ?_
  refine OJ.slotOf (d := 6) (op := (.box 23 (.tmp 1))) (cd := c_api_NeighConfig) (u := a1) (owed := []) (box_run (by kernel_rfl)) (fun b1 => ?_)
  refine OW.nil ?_
  refine OJ.go 1 [(10, .bool false)] ?_
  refine OJ.nil ?_
  refine SJ.sr 1 ?_
  refine OJ.go 1 [(11, .int .i64 0)] ?_
  refine OJ.nil ?_
  refine SJ.seq ?_
  refine SJ.sr 1 ?_
  refine OJ.go 1 [(12, .int .i64 0)] ?_
  refine OJ.nil ?_
  refine SJ.block (id := 0) ?_
  exact SJ.loop (fun s_ : (Int × Int) => [(0, .pointer a0), (2, Sl.v a2), (3, Sl.v a3), (4, .int .i64 a4), (6, .pointer (some (pt b1 0))), (11, .int .i64 s_.1), (12, .int .i64 s_.2)]) (fun s_ : (Int × Int) => [(b1, c_api_NeighConfig.enc a1)]) [0, 2, 3, 4, 6, 11, 12] rfl (fun _ _ => rfl) (fun s_ => weirlaw15_due.L1_ok a0 a1 a2 a3 a4 b1 s_.1 s_.2)

/-! ### weir/weirlaw15.NeighPatience: function 3 -/
noncomputable def weirlaw15_NeighPatience.B : Code := (Try.f3.body).getD .skip
noncomputable def weirlaw15_NeighPatience.cx : Fx := ⟨Try.prog, 3, Try.f3⟩
noncomputable def weirlaw15_NeighPatience.out (r_ : Bool) : Value := .bool r_
noncomputable def weirlaw15_NeighPatience.F0 (r_ : Bool) : Reach := .ret (weirlaw15_NeighPatience.out r_)
noncomputable def weirlaw15_NeighPatience.F1 (a1 : Sl) (b1 : Nat) (r2 : ((Option Addr) × api_NeighConfig)) : (LS (Sl × Int × Int) Bool) → Reach := loopF [.inLoop (c1 (c1 (c2 (c1 (c2 (c2 (c2 (c2 (c2 weirlaw15_NeighPatience.B))))))))), .inBlock 0, .code (c2 (c2 (c2 (c2 (c2 (c2 weirlaw15_NeighPatience.B))))))] (fun s_ : (Sl × Int × Int) => [(1, Sl.v a1), (2, .pointer (some (pt b1 0))), (5, .pointer r2.1), (6, Sl.v s_.1), (7, .int .i64 s_.2.1), (8, .int .i64 s_.2.2)]) (fun s_ : (Sl × Int × Int) => [(b1, c_api_NeighConfig.enc r2.2)]) weirlaw15_NeighPatience.F0
noncomputable def weirlaw15_NeighPatience.K1 (s7 : Int) (j141 : Sl) (j142 : Int) : M (LS (Sl × Int × Int) Bool) :=
  pure (LS.next (j141, j142, IntKind.wrap .i64 (s7 + 1)))
theorem weirlaw15_NeighPatience.K1_ok (a1 : Sl) (b1 : Nat) (r2 : ((Option Addr) × api_NeighConfig)) (s7 : Int) (j141 : Sl) (j142 : Int) :
    SJ weirlaw15_NeighPatience.cx [.inBlock 2, .inBlock 1, .code (c2 (c2 (c1 (c1 (c2 (c1 (c2 (c2 (c2 (c2 (c2 weirlaw15_NeighPatience.B))))))))))), .inLoop (c1 (c1 (c2 (c1 (c2 (c2 (c2 (c2 (c2 weirlaw15_NeighPatience.B))))))))), .inBlock 0, .code (c2 (c2 (c2 (c2 (c2 (c2 weirlaw15_NeighPatience.B))))))] [(1, Sl.v a1), (2, .pointer (some (pt b1 0))), (5, .pointer r2.1), (6, Sl.v j141), (7, .int .i64 j142), (8, .int .i64 s7)] [(b1, c_api_NeighConfig.enc r2.2)] (weirlaw15_NeighPatience.K1 s7 j141 j142) (weirlaw15_NeighPatience.F1 a1 b1 r2) := by
  unfold weirlaw15_NeighPatience.K1
  refine SJ.inBlock ?_
  refine SJ.inBlock ?_
  refine SJ.rg 3 ?_
  refine OJ.go 3 [(8, .int .i64 (IntKind.wrap .i64 (s7 + 1))), (34, .int .i64 (IntKind.wrap .i64 (s7 + 1))), (33, .int .i64 s7)] ?_
  refine OJ.nil ?_
  exact SJ.at_ [1, 2, 5, 6, 7, 8] rfl
noncomputable def weirlaw15_NeighPatience.L1 (a1 : Sl) (r2 : ((Option Addr) × api_NeighConfig)) (s5 : Sl) (s6 : Int) (s7 : Int) : M (LS (Sl × Int × Int) Bool) :=
  if s7 < (a1.len : Int) then
    idx a1.a a1.len s7 27 >>= fun p97 =>
    ld c_weirlaw15_Op p97 >>= fun x98 =>
    slot 36 >>= fun b99 =>
    if x98.Kind = 1 then
      neigh_Cache_Want r2.1 x98.Port x98.IP x98.N >>= fun r143 =>
      slot 34 >>= fun b144 =>
      weirlaw15_num r143.2.2 >>= fun r145 =>
      (if r145 = 0 then
          (if r143.2.1 = 2 then
              pure true
            else
              pure (r143.2.1 == 3)) >>= fun y146 =>
          pure y146
        else
          pure false) >>= fun y147 =>
      if y147 = true then
        weirlaw15_row s5 x98.Port x98.IP >>= fun r151 =>
        idx r151.1.a r151.1.len r151.2 21 >>= fun p152 =>
        st (cI .i64) (Addr.add p152 19) s6 >>= fun _ =>
        idx r151.1.a r151.1.len r151.2 21 >>= fun p153 =>
        st (cI .i64) (Addr.add p153 20) 1 >>= fun _ =>
        weirlaw15_NeighPatience.K1 s7 r151.1 s6
      else
        weirlaw15_NeighPatience.K1 s7 s5 s6
    else
      if x98.Kind = 2 then
        neigh_Cache_Learn r2.1 x98.Port x98.IP x98.Mac x98.N >>= fun r169 =>
        weirlaw15_place s5 x98.Port x98.IP >>= fun r170 =>
        (if r170 ≥ 0 then
            weirlaw15_asking r2.1 x98.Port x98.IP >>= fun r171 =>
            pure (!r171)
          else
            pure false) >>= fun y172 =>
        if y172 = true then
          idx s5.a s5.len r170 21 >>= fun p174 =>
          st (cI .i64) (Addr.add p174 20) 0 >>= fun _ =>
          weirlaw15_NeighPatience.K1 s7 s5 s6
        else
          weirlaw15_NeighPatience.K1 s7 s5 s6
      else
        if x98.Kind = 3 then
          neigh_Cache_Tick r2.1 >>= fun r179 =>
          weirlaw15_due r2.1 r2.2 s5 r179.1 (IntKind.wrap .i64 (s6 + 1)) >>= fun r180 =>
          if ¬ (r180 = true) then
            pure (LS.done false)
          else
            weirlaw15_NeighPatience.K1 s7 s5 (IntKind.wrap .i64 (s6 + 1))
        else
          weirlaw15_NeighPatience.K1 s7 s5 s6
  else
    pure (LS.done true)
theorem weirlaw15_NeighPatience.L1_ok (a1 : Sl) (b1 : Nat) (r2 : ((Option Addr) × api_NeighConfig)) (s5 : Sl) (s6 : Int) (s7 : Int) :
    SJ weirlaw15_NeighPatience.cx [.code (c1 (c1 (c2 (c1 (c2 (c2 (c2 (c2 (c2 weirlaw15_NeighPatience.B))))))))), .inLoop (c1 (c1 (c2 (c1 (c2 (c2 (c2 (c2 (c2 weirlaw15_NeighPatience.B))))))))), .inBlock 0, .code (c2 (c2 (c2 (c2 (c2 (c2 weirlaw15_NeighPatience.B))))))] [(1, Sl.v a1), (2, .pointer (some (pt b1 0))), (5, .pointer r2.1), (6, Sl.v s5), (7, .int .i64 s6), (8, .int .i64 s7)] [(b1, c_api_NeighConfig.enc r2.2)] (weirlaw15_NeighPatience.L1 a1 r2 s5 s6 s7) (weirlaw15_NeighPatience.F1 a1 b1 r2) := by
  unfold weirlaw15_NeighPatience.L1
  refine SJ.seq ?_
  refine SJ.sr 4 ?_
  refine OJ.go 4 [(32, .bool (decide (s7 < (a1.len : Int)))), (31, .int .i64 (a1.len : Int)), (30, Sl.v a1), (29, .int .i64 s7)] ?_
  refine OJ.nil ?_
  refine SJ.cond (t := (.tmp 32)) (b := decide (s7 < (a1.len : Int))) decide_eq_true_iff (fun hc185 => ?_) (fun hc185 => ?_)
  · refine SJ.skip ?_
    refine SJ.seq ?_
    refine SJ.block (id := 1) ?_
    refine SJ.sr 6 ?_
    refine OJ.go 2 [(36, .int .i64 s7), (35, Sl.v a1)] ?_
    refine OJ.idxS (d := 37) (T := 24) (y := .tmp 35) (j := .tmp 36) (E := 36) (cap := a1.cap) (k := .i64) (fun p97 => ?_)
    refine OJ.ld (d := 38) (y := .tmp 37) (pend2 := fun x98 => []) Ty36 (fun _ => rfl) (fun x98 => ?_)
    refine OJ.slotOf (d := 9) (op := (.alloc 36)) (cd := c_weirlaw15_Op) (u := z_weirlaw15_Op) (owed := []) (alloc_run Ty36) (fun b99 => ?_)
    refine OW.nil ?_
    refine OJ.kst (y := .tmp 9) (z := .tmp 38) (cd := c_weirlaw15_Op) (u := x98) (j := 0) (b := b99) (o := 0) (c_weirlaw15_Op.enc x98) (owed := []) Ty36 rfl (Upd.whole ((Cod.len _ _).trans (Cod.len _ _).symm)) rfl ?_
    refine OW.nil ?_
    refine OJ.nil ?_
    refine SJ.sr 2 ?_
    refine OJ.go 1 [(39, .pointer (some (pt b99 0)))] ?_
    refine OJ.kld (d := 40) (y := .tmp 39) (cd := (cI .i64)) (j := 0) (b := b99) (o := 0) x98.Kind (pend2 := []) Ty3 rfl (At_weirlaw15_Op_Kind x98) rfl ?_
    refine OJ.nil ?_
    refine SJ.block (id := 2) ?_
    refine SJ.sr 2 ?_
    refine OJ.go 2 [(41, .bool (x98.Kind == 1)), (42, .bool (x98.Kind == 1))] ?_
    refine OJ.nil ?_
    refine SJ.cond (t := (.tmp 41)) (b := (x98.Kind == 1)) beq_iff_eq (fun hc184 => ?_) (fun hc184 => ?_)
    · refine SJ.sr 16 ?_
      refine OJ.go 2 [(45, .pointer (some (pt b99 2))), (44, .pointer r2.1)] ?_
      refine OJ.kld (d := 46) (y := .tmp 45) (cd := (cI .i64)) (j := 0) (b := b99) (o := 2) x98.Port (pend2 := []) Ty3 rfl (At_weirlaw15_Op_Port x98) rfl ?_
      refine OJ.go 1 [(47, .pointer (some (pt b99 3)))] ?_
      refine OJ.kld (d := 48) (y := .tmp 47) (cd := c_api_IP) (j := 0) (b := b99) (o := 3) x98.IP (pend2 := []) Ty32 rfl (At_weirlaw15_Op_IP x98) rfl ?_
      refine OJ.go 1 [(49, .pointer (some (pt b99 26)))] ?_
      refine OJ.kld (d := 50) (y := .tmp 49) (cd := (cI .i64)) (j := 0) (b := b99) (o := 26) x98.N (pend2 := []) Ty3 rfl (At_weirlaw15_Op_N x98) rfl ?_
      refine OJ.call (d := 51) (g := 15) (ats := #[25, 3, 32, 3]) (args := [.tmp 44, .tmp 46, .tmp 48, .tmp 50]) (owed := []) F15 (neigh_Cache_Want_ok r2.1 x98.Port x98.IP x98.N) (fun r143 => ?_)
      refine OW.nil ?_
      refine OJ.go 4 [(54, .int .i64 r143.2.2), (53, .int .i64 r143.2.1), (52, ((cI .u8).arr 6).val r143.1), (43, .tuple #[((cI .u8).arr 6).val r143.1, .int .i64 r143.2.1, .int .i64 r143.2.2])] ?_
      refine OJ.slotOf (d := 10) (op := (.alloc 34)) (cd := ((cI .u8).arr 6)) (u := (Vec.rep 6 0)) (owed := []) (alloc_run Ty34) (fun b144 => ?_)
      refine OW.nil ?_
      refine OJ.kst (y := .tmp 10) (z := .tmp 52) (cd := ((cI .u8).arr 6)) (u := r143.1) (j := 0) (b := b144) (o := 0) (((cI .u8).arr 6).enc r143.1) (owed := []) Ty34 rfl (Upd.whole ((Cod.len _ _).trans (Cod.len _ _).symm)) rfl ?_
      refine OW.nil ?_
      refine OJ.go 2 [(12, .int .i64 r143.2.2), (11, .int .i64 r143.2.1)] ?_
      refine OJ.nil ?_
      refine SJ.sr 11 ?_
      refine OJ.go 1 [(55, .int .i64 r143.2.2)] ?_
      refine OJ.call (d := 56) (g := 16) (ats := #[37]) (args := [.tmp 55]) (owed := []) F16 (weirlaw15_num_ok r143.2.2) (fun r145 => ?_)
      refine OW.nil ?_
      refine OJ.go 2 [(58, .bool (r145 == 0)), (57, .bool (r145 == 0))] ?_
      refine OJ.join (b := (r145 == 0)) [4, 5, 6, 7, 8, 9, 10] [] [1, 2, 5, 6, 7, 8, 9, 65] (fun y147 => [(1, Sl.v a1), (2, .pointer (some (pt b1 0))), (5, .pointer r2.1), (6, Sl.v s5), (7, .int .i64 s6), (8, .int .i64 s7), (9, .pointer (some (pt b99 0))), (65, .bool y147)]) [] [] (t := 58) beq_iff_eq (fun hp_ => ?_) (fun hp_ => ?_) (fun _ _ _ _ _ _ h_ => h_) (fun y147 => ?_)
      · refine OJ.go 3 [(61, .bool (r143.2.1 == 2)), (60, .bool (r143.2.1 == 2)), (59, .int .i64 r143.2.1)] ?_
        refine OJ.join (b := (r143.2.1 == 2)) [7, 8, 9] [10] [1, 2, 5, 6, 7, 8, 9, 58, 64] (fun y146 => [(1, Sl.v a1), (2, .pointer (some (pt b1 0))), (5, .pointer r2.1), (6, Sl.v s5), (7, .int .i64 s6), (8, .int .i64 s7), (9, .pointer (some (pt b99 0))), (58, .bool true), (64, .bool y146)]) [] [] (t := 61) beq_iff_eq (fun hp_ => ?_) (fun hp_ => ?_) (fun _ _ _ _ _ hq_ h_ => ⟨fun e_ he_ => (hq_ e_ he_).elim (fun h => h_.1 e_ h) (fun h => nomatch h), h_.2⟩) (fun y146 => ?_)
        · refine OJ.go 3 [(64, .bool true), (63, undef), (62, undef)] ?_
          exact OJ.nil ⟨(Cov.mem Cov.nil), rfl, _, rfl, by kernel_rfl⟩
        · refine OJ.go 3 [(64, .bool (r143.2.1 == 3)), (63, .bool (r143.2.1 == 3)), (62, .int .i64 r143.2.1)] ?_
          exact OJ.nil ⟨(Cov.mem Cov.nil), rfl, _, rfl, by kernel_rfl⟩
        · refine OJ.go 1 [(65, .bool y146)] ?_
          exact OJ.nil ⟨(Cov.mem Cov.nil), rfl, _, rfl, by kernel_rfl⟩
      · refine OJ.go 7 [(65, .bool false), (64, undef), (63, undef), (62, undef), (61, undef), (60, undef), (59, undef)] ?_
        exact OJ.nil ⟨(Cov.mem Cov.nil), rfl, _, rfl, by kernel_rfl⟩
      · refine OJ.nil ?_
        refine SJ.cond (t := (.tmp 65)) (b := y147) Iff.rfl (fun hc154 => ?_) (fun hc154 => ?_)
        · refine SJ.sr 1 ?_
          refine OJ.go 1 [(13, .int .i64 0)] ?_
          refine OJ.nil ?_
          refine SJ.sr 11 ?_
          refine OJ.go 2 [(68, .pointer (some (pt b99 2))), (67, Sl.v s5)] ?_
          refine OJ.kld (d := 69) (y := .tmp 68) (cd := (cI .i64)) (j := 1) (b := b99) (o := 2) x98.Port (pend2 := []) Ty3 rfl (At_weirlaw15_Op_Port x98) rfl ?_
          refine OJ.go 1 [(70, .pointer (some (pt b99 3)))] ?_
          refine OJ.kld (d := 71) (y := .tmp 70) (cd := c_api_IP) (j := 1) (b := b99) (o := 3) x98.IP (pend2 := []) Ty32 rfl (At_weirlaw15_Op_IP x98) rfl ?_
          refine OJ.call (d := 72) (g := 17) (ats := #[29, 3, 32]) (args := [.tmp 67, .tmp 69, .tmp 71]) (owed := []) F17 (weirlaw15_row_ok s5 x98.Port x98.IP) (fun r151 => ?_)
          refine OW.nil ?_
          refine OJ.go 5 [(13, .int .i64 r151.2), (6, Sl.v r151.1), (74, .int .i64 r151.2), (73, Sl.v r151.1), (66, .tuple #[Sl.v r151.1, .int .i64 r151.2])] ?_
          refine OJ.nil ?_
          refine SJ.sr 6 ?_
          refine OJ.go 3 [(77, .int .i64 s6), (76, .int .i64 r151.2), (75, Sl.v r151.1)] ?_
          refine OJ.idxS (d := 78) (T := 29) (y := .tmp 75) (j := .tmp 76) (E := 45) (cap := r151.1.cap) (k := .i64) (fun p152 => ?_)
          refine OJ.go 1 [(79, .pointer (some (Addr.add p152 19)))] ?_
          refine OJ.st (y := .tmp 79) (z := .tmp 77) (owed := []) Ty3 ?_
          refine OW.nil ?_
          refine OJ.nil ?_
          refine SJ.rg 5 ?_
          refine OJ.go 2 [(81, .int .i64 r151.2), (80, Sl.v r151.1)] ?_
          refine OJ.idxS (d := 82) (T := 29) (y := .tmp 80) (j := .tmp 81) (E := 45) (cap := r151.1.cap) (k := .i64) (fun p153 => ?_)
          refine OJ.go 1 [(83, .pointer (some (Addr.add p153 20)))] ?_
          refine OJ.st (y := .tmp 83) (z := .const (.int .i64 1)) (owed := []) Ty3 ?_
          refine OW.nil ?_
          refine OJ.nil ?_
          refine SJ.forget (List.Sublist.cons _ (List.Sublist.cons _ (List.Sublist.cons_cons _ List.Sublist.slnil))) ?_
          refine SJ.less [1, 2, 5, 6, 7, 8] (m' := [(1, Sl.v a1), (2, .pointer (some (pt b1 0))), (5, .pointer r2.1), (6, Sl.v r151.1), (7, .int .i64 s6), (8, .int .i64 s7)]) ?_
          exact weirlaw15_NeighPatience.K1_ok a1 b1 r2 s7 r151.1 s6
        · refine SJ.skip ?_
          refine SJ.forget (List.Sublist.cons _ (List.Sublist.cons _ (List.Sublist.cons_cons _ List.Sublist.slnil))) ?_
          refine SJ.less [1, 2, 5, 6, 7, 8] (m' := [(1, Sl.v a1), (2, .pointer (some (pt b1 0))), (5, .pointer r2.1), (6, Sl.v s5), (7, .int .i64 s6), (8, .int .i64 s7)]) ?_
          exact weirlaw15_NeighPatience.K1_ok a1 b1 r2 s7 s5 s6
    · refine SJ.sr 2 ?_
      refine OJ.go 2 [(84, .bool (x98.Kind == 2)), (85, .bool (x98.Kind == 2))] ?_
      refine OJ.nil ?_
      refine SJ.cond (t := (.tmp 84)) (b := (x98.Kind == 2)) beq_iff_eq (fun hc183 => ?_) (fun hc183 => ?_)
      · refine SJ.sr 10 ?_
        refine OJ.go 2 [(87, .pointer (some (pt b99 2))), (86, .pointer r2.1)] ?_
        refine OJ.kld (d := 88) (y := .tmp 87) (cd := (cI .i64)) (j := 0) (b := b99) (o := 2) x98.Port (pend2 := []) Ty3 rfl (At_weirlaw15_Op_Port x98) rfl ?_
        refine OJ.go 1 [(89, .pointer (some (pt b99 3)))] ?_
        refine OJ.kld (d := 90) (y := .tmp 89) (cd := c_api_IP) (j := 0) (b := b99) (o := 3) x98.IP (pend2 := []) Ty32 rfl (At_weirlaw15_Op_IP x98) rfl ?_
        refine OJ.go 1 [(91, .pointer (some (pt b99 20)))] ?_
        refine OJ.kld (d := 92) (y := .tmp 91) (cd := ((cI .u8).arr 6)) (j := 0) (b := b99) (o := 20) x98.Mac (pend2 := []) Ty34 rfl (At_weirlaw15_Op_Mac x98) rfl ?_
        refine OJ.go 1 [(93, .pointer (some (pt b99 26)))] ?_
        refine OJ.kld (d := 94) (y := .tmp 93) (cd := (cI .i64)) (j := 0) (b := b99) (o := 26) x98.N (pend2 := []) Ty3 rfl (At_weirlaw15_Op_N x98) rfl ?_
        refine OJ.call (d := 95) (g := 18) (ats := #[25, 3, 32, 34, 3]) (args := [.tmp 86, .tmp 88, .tmp 90, .tmp 92, .tmp 94]) (owed := []) F18 (neigh_Cache_Learn_ok r2.1 x98.Port x98.IP x98.Mac x98.N) (fun r169 => ?_)
        refine OW.nil ?_
        refine OJ.nil ?_
        refine SJ.sr 7 ?_
        refine OJ.go 2 [(97, .pointer (some (pt b99 2))), (96, Sl.v s5)] ?_
        refine OJ.kld (d := 98) (y := .tmp 97) (cd := (cI .i64)) (j := 0) (b := b99) (o := 2) x98.Port (pend2 := []) Ty3 rfl (At_weirlaw15_Op_Port x98) rfl ?_
        refine OJ.go 1 [(99, .pointer (some (pt b99 3)))] ?_
        refine OJ.kld (d := 100) (y := .tmp 99) (cd := c_api_IP) (j := 0) (b := b99) (o := 3) x98.IP (pend2 := []) Ty32 rfl (At_weirlaw15_Op_IP x98) rfl ?_
        refine OJ.call (d := 101) (g := 19) (ats := #[29, 3, 32]) (args := [.tmp 96, .tmp 98, .tmp 100]) (owed := []) F19 (weirlaw15_place_ok s5 x98.Port x98.IP) (fun r170 => ?_)
        refine OW.nil ?_
        refine OJ.go 1 [(14, .int .i64 r170)] ?_
        refine OJ.nil ?_
        refine SJ.sr 11 ?_
        refine OJ.go 3 [(104, .bool (decide (r170 ≥ 0))), (103, .bool (decide (r170 ≥ 0))), (102, .int .i64 r170)] ?_
        refine OJ.join (b := decide (r170 ≥ 0)) [3, 4, 5, 6, 7, 8, 9, 10] [] [1, 2, 5, 6, 7, 8, 14, 112] (fun y172 => [(1, Sl.v a1), (2, .pointer (some (pt b1 0))), (5, .pointer r2.1), (6, Sl.v s5), (7, .int .i64 s6), (8, .int .i64 s7), (14, .int .i64 r170), (112, .bool y172)]) [] [] (t := 104) decide_eq_true_iff (fun hp_ => ?_) (fun hp_ => ?_) (fun _ _ _ _ _ _ h_ => h_) (fun y172 => ?_)
        · refine OJ.go 2 [(106, .pointer (some (pt b99 2))), (105, .pointer r2.1)] ?_
          refine OJ.kld (d := 107) (y := .tmp 106) (cd := (cI .i64)) (j := 0) (b := b99) (o := 2) x98.Port (pend2 := []) Ty3 rfl (At_weirlaw15_Op_Port x98) rfl ?_
          refine OJ.go 1 [(108, .pointer (some (pt b99 3)))] ?_
          refine OJ.kld (d := 109) (y := .tmp 108) (cd := c_api_IP) (j := 0) (b := b99) (o := 3) x98.IP (pend2 := []) Ty32 rfl (At_weirlaw15_Op_IP x98) rfl ?_
          refine OJ.call (d := 110) (g := 20) (ats := #[25, 3, 32]) (args := [.tmp 105, .tmp 107, .tmp 109]) (owed := []) F20 (weirlaw15_asking_ok r2.1 x98.Port x98.IP) (fun r171 => ?_)
          refine OW.nil ?_
          refine OJ.go 2 [(112, .bool (!r171)), (111, .bool (!r171))] ?_
          exact OJ.nil ⟨(Cov.mem Cov.nil), rfl, _, rfl, by kernel_rfl⟩
        · refine OJ.go 8 [(112, .bool false), (111, undef), (110, undef), (109, undef), (108, undef), (107, undef), (106, undef), (105, undef)] ?_
          exact OJ.nil ⟨(Cov.mem Cov.nil), rfl, _, rfl, by kernel_rfl⟩
        · refine OJ.nil ?_
          refine SJ.cond (t := (.tmp 112)) (b := y172) Iff.rfl (fun hc175 => ?_) (fun hc175 => ?_)
          · refine SJ.rg 5 ?_
            refine OJ.go 2 [(114, .int .i64 r170), (113, Sl.v s5)] ?_
            refine OJ.idxS (d := 115) (T := 29) (y := .tmp 113) (j := .tmp 114) (E := 45) (cap := s5.cap) (k := .i64) (fun p174 => ?_)
            refine OJ.go 1 [(116, .pointer (some (Addr.add p174 20)))] ?_
            refine OJ.st (y := .tmp 116) (z := .const (.int .i64 0)) (owed := []) Ty3 ?_
            refine OW.nil ?_
            refine OJ.nil ?_
            refine SJ.forget (List.Sublist.cons _ (List.Sublist.cons_cons _ List.Sublist.slnil)) ?_
            refine SJ.less [1, 2, 5, 6, 7, 8] (m' := [(1, Sl.v a1), (2, .pointer (some (pt b1 0))), (5, .pointer r2.1), (6, Sl.v s5), (7, .int .i64 s6), (8, .int .i64 s7)]) ?_
            exact weirlaw15_NeighPatience.K1_ok a1 b1 r2 s7 s5 s6
          · refine SJ.skip ?_
            refine SJ.forget (List.Sublist.cons _ (List.Sublist.cons_cons _ List.Sublist.slnil)) ?_
            refine SJ.less [1, 2, 5, 6, 7, 8] (m' := [(1, Sl.v a1), (2, .pointer (some (pt b1 0))), (5, .pointer r2.1), (6, Sl.v s5), (7, .int .i64 s6), (8, .int .i64 s7)]) ?_
            exact weirlaw15_NeighPatience.K1_ok a1 b1 r2 s7 s5 s6
      · refine SJ.sr 2 ?_
        refine OJ.go 2 [(117, .bool (x98.Kind == 3)), (118, .bool (x98.Kind == 3))] ?_
        refine OJ.nil ?_
        refine SJ.cond (t := (.tmp 117)) (b := (x98.Kind == 3)) beq_iff_eq (fun hc182 => ?_) (fun hc182 => ?_)
        · refine SJ.sr 3 ?_
          refine OJ.go 3 [(7, .int .i64 (IntKind.wrap .i64 (s6 + 1))), (120, .int .i64 (IntKind.wrap .i64 (s6 + 1))), (119, .int .i64 s6)] ?_
          refine OJ.nil ?_
          refine SJ.sr 7 ?_
          refine OJ.go 1 [(122, .pointer r2.1)] ?_
          refine OJ.call (d := 123) (g := 21) (ats := #[25]) (args := [.tmp 122]) (owed := []) F21 (neigh_Cache_Tick_ok r2.1) (fun r179 => ?_)
          refine OW.nil ?_
          refine OJ.go 5 [(16, Sl.v r179.2), (15, Sl.v r179.1), (125, Sl.v r179.2), (124, Sl.v r179.1), (121, .tuple #[Sl.v r179.1, Sl.v r179.2])] ?_
          refine OJ.nil ?_
          refine SJ.sr 7 ?_
          refine OJ.go 1 [(126, .pointer r2.1)] ?_
          refine OJ.kld (d := 127) (y := .tmp 2) (cd := c_api_NeighConfig) (j := 1) (b := b1) (o := 0) r2.2 (pend2 := []) Ty23 rfl (At.whole _) rfl ?_
          refine OJ.go 3 [(130, .int .i64 (IntKind.wrap .i64 (s6 + 1))), (129, Sl.v r179.1), (128, Sl.v s5)] ?_
          refine OJ.call (d := 131) (g := 22) (ats := #[25, 23, 29, 50, 3]) (args := [.tmp 126, .tmp 127, .tmp 128, .tmp 129, .tmp 130]) (owed := []) F22 (weirlaw15_due_ok r2.1 r2.2 s5 r179.1 (IntKind.wrap .i64 (s6 + 1))) (fun r180 => ?_)
          refine OW.nil ?_
          refine OJ.go 1 [(132, .bool (!r180))] ?_
          refine OJ.nil ?_
          refine SJ.cond (t := (.tmp 132)) (b := (!r180)) (bnot_iff Iff.rfl) (fun hc181 => ?_) (fun hc181 => ?_)
          · refine SJ.sr 1 ?_
            refine OJ.go 1 [(4, .bool false)] ?_
            refine OJ.nil ?_
            exact SJ.ret rfl (Res.run (ys := [.bool false]) (.tmp (by kernel_rfl) .nil) rfl)
          · refine SJ.skip ?_
            refine SJ.forget (List.Sublist.cons _ (List.Sublist.cons_cons _ List.Sublist.slnil)) ?_
            refine SJ.less [1, 2, 5, 6, 7, 8] (m' := [(1, Sl.v a1), (2, .pointer (some (pt b1 0))), (5, .pointer r2.1), (6, Sl.v s5), (7, .int .i64 (IntKind.wrap .i64 (s6 + 1))), (8, .int .i64 s7)]) ?_
            exact weirlaw15_NeighPatience.K1_ok a1 b1 r2 s7 s5 (IntKind.wrap .i64 (s6 + 1))
        · refine SJ.skip ?_
          refine SJ.forget (List.Sublist.cons _ (List.Sublist.cons_cons _ List.Sublist.slnil)) ?_
          refine SJ.less [1, 2, 5, 6, 7, 8] (m' := [(1, Sl.v a1), (2, .pointer (some (pt b1 0))), (5, .pointer r2.1), (6, Sl.v s5), (7, .int .i64 s6), (8, .int .i64 s7)]) ?_
          exact weirlaw15_NeighPatience.K1_ok a1 b1 r2 s7 s5 s6
  · refine SJ.exit (id := 0) (by rfl) ?_
    refine SJ.sr 1 ?_
    refine OJ.go 1 [(4, .bool true)] ?_
    refine OJ.nil ?_
    exact SJ.ret rfl (Res.run (ys := [.bool true]) (.tmp (by kernel_rfl) .nil) rfl)
noncomputable def weirlaw15_NeighPatience (a0 : api_NeighConfig) (a1 : Sl) : M Bool :=
  slot 23 >>= fun b1 =>
  weirlaw15_cache a0 >>= fun r2 =>
  (if r2.1 = none then
      pure true
    else
      weirlaw15_first r2.1 >>= fun r3 =>
      pure (!r3)) >>= fun y4 =>
  if y4 = true then
    pure false
  else
    loopM (fun s_ : (Sl × Int × Int) => weirlaw15_NeighPatience.L1 a1 r2 s_.1 s_.2.1 s_.2.2) (Sl.nil, 0, 0)
theorem weirlaw15_NeighPatience_ok (a0 : api_NeighConfig) (a1 : Sl) : Ref Try.prog 3 [c_api_NeighConfig.val a0, Sl.v a1] (weirlaw15_NeighPatience a0 a1) weirlaw15_NeighPatience.out := by
  refine Ref.of (cd := weirlaw15_NeighPatience.B) Try.func3 ?_
  show SJ weirlaw15_NeighPatience.cx [.code weirlaw15_NeighPatience.B] [(0, c_api_NeighConfig.val a0), (1, Sl.v a1)] [] (weirlaw15_NeighPatience a0 a1) weirlaw15_NeighPatience.F0
  unfold weirlaw15_NeighPatience
  refine SJ.sr 2 ?_
  refine OJ.slotOf (d := 2) (op := (.box 23 (.tmp 0))) (cd := c_api_NeighConfig) (u := a0) (owed := []) (box_run (by kernel_rfl)) (fun b1 => ?_)
  refine OW.nil ?_
  refine OJ.go 1 [(4, .bool false)] ?_
  refine OJ.nil ?_
  refine SJ.sr 7 ?_
  refine OJ.kld (d := 18) (y := .tmp 2) (cd := c_api_NeighConfig) (j := 0) (b := b1) (o := 0) a0 (pend2 := []) Ty23 rfl (At.whole _) rfl ?_
  refine OJ.call (d := 19) (g := 13) (ats := #[23]) (args := [.tmp 18]) (owed := []) F13 (weirlaw15_cache_ok a0) (fun r2 => ?_)
  refine OW.nil ?_
  refine OJ.go 4 [(5, .pointer r2.1), (21, c_api_NeighConfig.val r2.2), (20, .pointer r2.1), (17, .tuple #[.pointer r2.1, c_api_NeighConfig.val r2.2])] ?_
  refine OJ.kst (y := .tmp 2) (z := .tmp 21) (cd := c_api_NeighConfig) (u := r2.2) (j := 0) (b := b1) (o := 0) (c_api_NeighConfig.enc r2.2) (owed := []) Ty23 rfl (Upd.whole ((Cod.len _ _).trans (Cod.len _ _).symm)) rfl ?_
  refine OW.nil ?_
  refine OJ.nil ?_
  refine SJ.seq ?_
  refine SJ.sr 7 ?_
  refine OJ.go 3 [(24, .bool (Option.isNone r2.1)), (23, .bool (Option.isNone r2.1)), (22, .pointer r2.1)] ?_
  refine OJ.join (b := (Option.isNone r2.1)) [3, 4, 5, 6] [] [1, 2, 5, 28] (fun y4 => [(1, Sl.v a1), (2, .pointer (some (pt b1 0))), (5, .pointer r2.1), (28, .bool y4)]) [] [] (t := 24) Option.isNone_iff_eq_none (fun hp_ => ?_) (fun hp_ => ?_) (fun _ _ _ _ _ _ h_ => h_) (fun y4 => ?_)
  · refine OJ.go 4 [(28, .bool true), (27, undef), (26, undef), (25, undef)] ?_
    exact OJ.nil ⟨(Cov.mem Cov.nil), rfl, _, rfl, by kernel_rfl⟩
  · refine OJ.go 1 [(25, .pointer r2.1)] ?_
    refine OJ.call (d := 26) (g := 14) (ats := #[25]) (args := [.tmp 25]) (owed := []) F14 (weirlaw15_first_ok r2.1) (fun r3 => ?_)
    refine OW.nil ?_
    refine OJ.go 2 [(28, .bool (!r3)), (27, .bool (!r3))] ?_
    exact OJ.nil ⟨(Cov.mem Cov.nil), rfl, _, rfl, by kernel_rfl⟩
  · refine OJ.nil ?_
    refine SJ.cond (t := (.tmp 28)) (b := y4) Iff.rfl (fun hc186 => ?_) (fun hc186 => ?_)
    · refine SJ.sr 1 ?_
      refine OJ.go 1 [(4, .bool false)] ?_
      refine OJ.nil ?_
      exact SJ.ret rfl (Res.run (ys := [.bool false]) (.tmp (by kernel_rfl) .nil) rfl)
    · refine SJ.skip ?_
      refine SJ.sr 1 ?_
      refine OJ.go 1 [(6, Sl.v Sl.nil)] ?_
      refine OJ.nil ?_
      refine SJ.sr 1 ?_
      refine OJ.go 1 [(7, .int .i64 0)] ?_
      refine OJ.nil ?_
      refine SJ.seq ?_
      refine SJ.sr 1 ?_
      refine OJ.go 1 [(8, .int .i64 0)] ?_
      refine OJ.nil ?_
      refine SJ.block (id := 0) ?_
      exact SJ.loop (fun s_ : (Sl × Int × Int) => [(1, Sl.v a1), (2, .pointer (some (pt b1 0))), (5, .pointer r2.1), (6, Sl.v s_.1), (7, .int .i64 s_.2.1), (8, .int .i64 s_.2.2)]) (fun s_ : (Sl × Int × Int) => [(b1, c_api_NeighConfig.enc r2.2)]) [1, 2, 5, 6, 7, 8] rfl (fun _ _ => rfl) (fun s_ => weirlaw15_NeighPatience.L1_ok a1 b1 r2 s_.1 s_.2.1 s_.2.2)

/-! ### (*weir/neigh.Cache).All: function 27 -/
noncomputable def neigh_Cache_All.B : Code := (Try.f27.body).getD .skip
noncomputable def neigh_Cache_All.cx : Fx := ⟨Try.prog, 27, Try.f27⟩
noncomputable def neigh_Cache_All.out (r_ : Sl) : Value := Sl.v r_
noncomputable def neigh_Cache_All.F0 (r_ : Sl) : Reach := .ret (neigh_Cache_All.out r_)
noncomputable def neigh_Cache_All.F1 (r1 : Sl) : (LS (Sl × Int) Sl) → Reach := loopF [.inLoop (c1 (c1 (c2 (c1 (c2 (c2 neigh_Cache_All.B)))))), .inBlock 0, .code (c2 (c2 (c2 neigh_Cache_All.B)))] (fun s_ : (Sl × Int) => [(3, Sl.v s_.1), (7, Sl.v r1), (8, .int .i64 (r1.len : Int)), (9, .int .i64 s_.2)]) (fun s_ : (Sl × Int) => []) neigh_Cache_All.F0
noncomputable def neigh_Cache_All.L1 (r1 : Sl) (s2 : Sl) (s3 : Int) : M (LS (Sl × Int) Sl) :=
  if s3 < (r1.len : Int) then
    idx r1.a r1.len s3 1 >>= fun p10 =>
    ld cP p10 >>= fun x11 =>
    neigh_entry_told x11 >>= fun r12 =>
    slot 77 >>= fun b13 =>
    appl c_api_Neighbour 77 72 z_api_Neighbour s2 [r12] >>= fun r14 =>
    pure (LS.next (r14, IntKind.wrap .i64 (s3 + 1)))
  else
    pure (LS.done s2)
theorem neigh_Cache_All.L1_ok (r1 : Sl) (s2 : Sl) (s3 : Int) :
    SJ neigh_Cache_All.cx [.code (c1 (c1 (c2 (c1 (c2 (c2 neigh_Cache_All.B)))))), .inLoop (c1 (c1 (c2 (c1 (c2 (c2 neigh_Cache_All.B)))))), .inBlock 0, .code (c2 (c2 (c2 neigh_Cache_All.B)))] [(3, Sl.v s2), (7, Sl.v r1), (8, .int .i64 (r1.len : Int)), (9, .int .i64 s3)] [] (neigh_Cache_All.L1 r1 s2 s3) (neigh_Cache_All.F1 r1) := by
  unfold neigh_Cache_All.L1
  refine SJ.sr 1 ?_
  refine OJ.go 1 [(10, .bool (decide (s3 < (r1.len : Int))))] ?_
  refine OJ.nil ?_
  refine SJ.seq ?_
  refine SJ.cond (t := (.tmp 10)) (b := decide (s3 < (r1.len : Int))) decide_eq_true_iff (fun hc15 => ?_) (fun hc15 => ?_)
  · refine SJ.skip ?_
    refine SJ.seq ?_
    refine SJ.block (id := 1) ?_
    refine SJ.sr 3 ?_
    refine OJ.idxS (d := 11) (T := 108) (y := .tmp 7) (j := .tmp 9) (E := 100) (cap := r1.cap) (k := .i64) (fun p10 => ?_)
    refine OJ.ld (d := 12) (y := .tmp 11) (pend2 := fun x11 => []) Ty100 (fun _ => rfl) (fun x11 => ?_)
    refine OJ.go 1 [(5, .pointer x11)] ?_
    refine OJ.nil ?_
    refine SJ.rg 6 ?_
    refine OJ.go 2 [(14, .pointer x11), (13, Sl.v s2)] ?_
    refine OJ.call (d := 15) (g := 51) (ats := #[100]) (args := [.tmp 14]) (owed := []) F51 (neigh_entry_told_ok x11) (fun r12 => ?_)
    refine OW.nil ?_
    refine OJ.rowSlot (d := 16) (t := 68) (parts := [(0, .tmp 15)]) (ps := [(0, c_api_Neighbour.val r12)]) (cd := c_api_Neighbour) (⟨[r12], rfl⟩ : Vec api_Neighbour 1) (owed := []) Ty77 (Filled.cons (cd := c_api_Neighbour) (q := r12) (o := 0) rfl (Upd.arr (i := 0) (by decide) (by decide)) Filled.nil) (fun b13 => ?_)
    refine OW.nil ?_
    refine OJ.appl (d := 17) (t := 68) (u := 68) (so := .tmp 13) (xo := .tmp 16) (j := 0) (b := b13) (l := (c_api_Neighbour.arr 1).enc (⟨[r12], rfl⟩ : Vec api_Neighbour 1)) (n := 1) (k := 1) [r12] (owed := []) Ty77 (by rfl) (Cod.arr_enc _ _ _) (by rfl) (fun r14 => ?_)
    refine OW.nil ?_
    refine OJ.go 1 [(3, Sl.v r14)] ?_
    refine OJ.nil ?_
    refine SJ.inBlock ?_
    refine SJ.rg 2 ?_
    refine OJ.go 2 [(9, .int .i64 (IntKind.wrap .i64 (s3 + 1))), (18, .int .i64 (IntKind.wrap .i64 (s3 + 1)))] ?_
    refine OJ.nil ?_
    refine SJ.forget (List.Sublist.cons _ List.Sublist.slnil) ?_
    exact SJ.at_ [3, 7, 8, 9] rfl
  · refine SJ.exit (id := 0) (by rfl) ?_
    refine SJ.sr 2 ?_
    refine OJ.go 2 [(2, Sl.v s2), (19, Sl.v s2)] ?_
    refine OJ.nil ?_
    exact SJ.ret rfl (Res.run (ys := [Sl.v s2]) (.tmp (by kernel_rfl) .nil) rfl)
noncomputable def neigh_Cache_All (a0 : (Option Addr)) : M Sl :=
  neigh_Cache_sorted a0 >>= fun r1 =>
  loopM (fun s_ : (Sl × Int) => neigh_Cache_All.L1 r1 s_.1 s_.2) (Sl.nil, 0)
theorem neigh_Cache_All_ok (a0 : (Option Addr)) : Ref Try.prog 27 [.pointer a0] (neigh_Cache_All a0) neigh_Cache_All.out := by
  refine Ref.of (cd := neigh_Cache_All.B) Try.func27 ?_
  show SJ neigh_Cache_All.cx [.code neigh_Cache_All.B] [(0, .pointer a0)] [] (neigh_Cache_All a0) neigh_Cache_All.F0
  unfold neigh_Cache_All
  refine SJ.sr 1 ?_
  refine OJ.go 1 [(2, Sl.v Sl.nil)] ?_
  refine OJ.nil ?_
  refine SJ.sr 1 ?_
  refine OJ.go 1 [(3, Sl.v Sl.nil)] ?_
  refine OJ.nil ?_
  refine SJ.seq ?_
  refine SJ.sr 4 ?_
  refine OJ.go 1 [(6, .pointer a0)] ?_
  refine OJ.call (d := 7) (g := 50) (ats := #[25]) (args := [.tmp 6]) (owed := []) F50 (neigh_Cache_sorted_ok a0) (fun r1 => ?_)
  refine OW.nil ?_
  refine OJ.go 2 [(9, .int .i64 0), (8, .int .i64 (r1.len : Int))] ?_
  refine OJ.nil ?_
  refine SJ.block (id := 0) ?_
  exact SJ.loop (fun s_ : (Sl × Int) => [(3, Sl.v s_.1), (7, Sl.v r1), (8, .int .i64 (r1.len : Int)), (9, .int .i64 s_.2)]) (fun s_ : (Sl × Int) => []) [3, 7, 8, 9] rfl (fun _ _ => rfl) (fun s_ => neigh_Cache_All.L1_ok r1 s_.1 s_.2)

/-! ### (*weir/neigh.Cache).Waiting: function 35 -/
noncomputable def neigh_Cache_Waiting.B : Code := (Try.f35.body).getD .skip
noncomputable def neigh_Cache_Waiting.cx : Fx := ⟨Try.prog, 35, Try.f35⟩
noncomputable def neigh_Cache_Waiting.out (r_ : Int) : Value := .int .i64 r_
noncomputable def neigh_Cache_Waiting.F0 (r_ : Int) : Reach := .ret (neigh_Cache_Waiting.out r_)
noncomputable def neigh_Cache_Waiting.F1 (b3 : Nat) : (LS Int Int) → Reach := loopF [.inLoop (c1 (c1 (c2 (c1 (c2 (c2 neigh_Cache_Waiting.B)))))), .inBlock 0, .code (c2 (c2 (c2 neigh_Cache_Waiting.B)))] (fun s_ : Int => [(3, .int .i64 s_), (10, .pointer (some (pt b3 0)))]) (fun s_ : Int => []) neigh_Cache_Waiting.F0
noncomputable def neigh_Cache_Waiting.L1 (b3 : Nat) (s4 : Int) : M (LS Int Int) :=
  mnext b3 >>= fun r10 =>
  if r10.1 = true then
    mentry c_neigh_key cP b3 >>= fun r11 =>
    nilck r11.2 >>= fun p12 =>
    ld cL (Addr.add p12 27) >>= fun x13 =>
    pure (LS.next (IntKind.wrap .i64 (s4 + (x13.len : Int))))
  else
    pure (LS.done s4)
theorem neigh_Cache_Waiting.L1_ok (b3 : Nat) (s4 : Int) :
    SJ neigh_Cache_Waiting.cx [.code (c1 (c1 (c2 (c1 (c2 (c2 neigh_Cache_Waiting.B)))))), .inLoop (c1 (c1 (c2 (c1 (c2 (c2 neigh_Cache_Waiting.B)))))), .inBlock 0, .code (c2 (c2 (c2 neigh_Cache_Waiting.B)))] [(3, .int .i64 s4), (10, .pointer (some (pt b3 0)))] [] (neigh_Cache_Waiting.L1 b3 s4) (neigh_Cache_Waiting.F1 b3) := by
  unfold neigh_Cache_Waiting.L1
  refine SJ.sr 2 ?_
  refine OJ.mnext (d := 11) (x := .tmp 10) (owed := []) (fun r10 => ?_)
  refine OW.nil ?_
  refine OJ.go 1 [(12, .bool r10.1)] ?_
  refine OJ.nil ?_
  refine SJ.seq ?_
  refine SJ.cond (t := (.tmp 12)) (b := r10.1) Iff.rfl (fun hc14 => ?_) (fun hc14 => ?_)
  · refine SJ.skip ?_
    refine SJ.block (id := 1) ?_
    refine SJ.sr 3 ?_
    refine OJ.mentry (d := 13) (x := .tmp 10) (owed := []) (fun r11 => ?_)
    refine OW.nil ?_
    refine OJ.go 2 [(5, .pointer r11.2), (14, .pointer r11.2)] ?_
    refine OJ.nil ?_
    refine SJ.rg 8 ?_
    refine OJ.go 2 [(16, .pointer r11.2), (15, .int .i64 s4)] ?_
    refine OJ.nilck (d := 17) (y := .tmp 16) (fun p12 => ?_)
    refine OJ.go 1 [(18, .pointer (some (Addr.add p12 27)))] ?_
    refine OJ.ld (d := 19) (y := .tmp 18) (pend2 := fun x13 => []) Ty43 (fun _ => rfl) (fun x13 => ?_)
    refine OJ.go 3 [(3, .int .i64 (IntKind.wrap .i64 (s4 + (x13.len : Int)))), (21, .int .i64 (IntKind.wrap .i64 (s4 + (x13.len : Int)))), (20, .int .i64 (x13.len : Int))] ?_
    refine OJ.nil ?_
    refine SJ.inBlock ?_
    exact SJ.at_ [3, 10] rfl
  · refine SJ.exit (id := 0) (by rfl) ?_
    refine SJ.sr 2 ?_
    refine OJ.go 2 [(2, .int .i64 s4), (22, .int .i64 s4)] ?_
    refine OJ.nil ?_
    exact SJ.ret rfl (Res.run (ys := [.int .i64 s4]) (.tmp (by kernel_rfl) .nil) rfl)
noncomputable def neigh_Cache_Waiting (a0 : (Option Addr)) : M Int :=
  nilck a0 >>= fun p1 =>
  ld cM (Addr.add p1 5) >>= fun x2 =>
  mrange x2 >>= fun b3 =>
  loopM (fun s_ : Int => neigh_Cache_Waiting.L1 b3 s_) 0
theorem neigh_Cache_Waiting_ok (a0 : (Option Addr)) : Ref Try.prog 35 [.pointer a0] (neigh_Cache_Waiting a0) neigh_Cache_Waiting.out := by
  refine Ref.of (cd := neigh_Cache_Waiting.B) Try.func35 ?_
  show SJ neigh_Cache_Waiting.cx [.code neigh_Cache_Waiting.B] [(0, .pointer a0)] [] (neigh_Cache_Waiting a0) neigh_Cache_Waiting.F0
  unfold neigh_Cache_Waiting
  refine SJ.sr 1 ?_
  refine OJ.go 1 [(2, .int .i64 0)] ?_
  refine OJ.nil ?_
  refine SJ.sr 1 ?_
  refine OJ.go 1 [(3, .int .i64 0)] ?_
  refine OJ.nil ?_
  refine SJ.seq ?_
  refine SJ.sr 5 ?_
  refine OJ.go 1 [(6, .pointer a0)] ?_
  refine OJ.nilck (d := 7) (y := .tmp 6) (fun p1 => ?_)
  refine OJ.go 1 [(8, .pointer (some (Addr.add p1 5)))] ?_
  refine OJ.ld (d := 9) (y := .tmp 8) (pend2 := fun x2 => []) Ty101 (fun _ => rfl) (fun x2 => ?_)
  refine OJ.mrange (d := 10) (T := 101) (kT := 99) (vT := 100) (x := .tmp 9) (owed := []) (fun b3 => ?_)
  refine OW.nil ?_
  refine OJ.nil ?_
  refine SJ.block (id := 0) ?_
  exact SJ.loop (fun s_ : Int => [(3, .int .i64 s_), (10, .pointer (some (pt b3 0)))]) (fun s_ : Int => []) [3, 10] rfl (fun _ _ => rfl) (fun s_ => neigh_Cache_Waiting.L1_ok b3 s_)
end Go.Proofs.Ytlkhijflgbobjaa.Lx
