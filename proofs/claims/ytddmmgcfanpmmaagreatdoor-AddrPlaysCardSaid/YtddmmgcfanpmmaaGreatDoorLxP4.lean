/- Programs of the M-world for Go functions, each with the proof that the Go text does what it says. Printed by lxgen.py. -/
import Derived.Test.YtddmmgcfanpmmaaGreatDoorLxT
import Derived.Test.YtddmmgcfanpmmaaGreatDoorLxP0
import Derived.Test.YtddmmgcfanpmmaaGreatDoorLxP1
import Derived.Test.YtddmmgcfanpmmaaGreatDoorLxP2
import Derived.Test.YtddmmgcfanpmmaaGreatDoorLxP3
set_option linter.unusedVariables false
set_option linter.unusedSimpArgs false
namespace Go.Proofs.YtddmmgcfanpmmaaGreatDoor.Lx
open Go Go.Proofs
/-! ### weir/weirref4.PrintIP: function 41 -/
noncomputable def r4_PrintIP.B : Code := (Tryz.f41.body).getD .skip
noncomputable def r4_PrintIP.cx : Fx := ⟨Tryz.prog, 41, Tryz.f41⟩
noncomputable def r4_PrintIP.out (r_ : (ByteArray × Int)) : Value := .tuple #[.string r_.1, .int .i64 r_.2]
noncomputable def r4_PrintIP.F0 (r_ : (ByteArray × Int)) : Reach := .ret (r4_PrintIP.out r_)
noncomputable def r4_PrintIP.F1 (a0 : api_IP) (b1 : Nat) (s8 : Int) (s9 : Int) : (LS (ByteArray × Int) (ByteArray × Int)) → Reach := loopF [.inLoop (c1 (c1 (c2 (c1 (c2 (c2 (c2 (c2 (c2 (c2 (c2 (c2 (c2 r4_PrintIP.B))))))))))))), .inBlock 2, .code (c2 (c2 (c2 (c2 (c2 (c2 (c2 (c2 (c2 (c2 r4_PrintIP.B))))))))))] (fun s_ : (ByteArray × Int) => [(1, .pointer (some (pt b1 0))), (5, .int .i64 s8), (6, .int .i64 s9), (9, .string s_.1), (10, .int .i64 s_.2)]) (fun s_ : (ByteArray × Int) => [(b1, c_api_IP.enc a0)]) r4_PrintIP.F0
noncomputable def r4_PrintIP.K1 (a0 : api_IP) (s15 : Int) (j102 : ByteArray) : M (LS (ByteArray × Int) (ByteArray × Int)) :=
 draw >>= fun _ =>
 chk ((0 : Int) ≤ (IntKind.wrap .i64 (2 * s15)) ∧ (IntKind.wrap .i64 (2 * s15)) < (16 : Nat)) >>= fun _ =>
 chk ((0 : Int) ≤ (IntKind.wrap .i64 ((IntKind.wrap .i64 (2 * s15)) + 1)) ∧ (IntKind.wrap .i64 ((IntKind.wrap .i64 (2 * s15)) + 1)) < (16 : Nat)) >>= fun _ =>
 r4_hex (IntKind.wrap .i64 ((IntKind.wrap .i64 (256 * (IntKind.wrap .i64 (Vec.g a0.A (IntKind.wrap .i64 (2 * s15)) 0)))) + (IntKind.wrap .i64 (Vec.g a0.A (IntKind.wrap .i64 ((IntKind.wrap .i64 (2 * s15)) + 1)) 0)))) >>= fun r107 =>
 chk (((j102.size + r107.size : Nat) : Int) ≤ 9223372036854775807) >>= fun _ =>
 pure (LS.next ((j102 ++ r107), IntKind.wrap .i64 (s15 + 1)))
theorem r4_PrintIP.K1_ok (a0 : api_IP) (b1 : Nat) (s8 : Int) (s9 : Int) (s15 : Int) (j102 : ByteArray) :
  SJ r4_PrintIP.cx [.code (c2 (c2 (c2 (c2 (c2 (c1 (c1 (c1 (c2 (c1 (c1 (c2 (c1 (c2 (c2 (c2 (c2 (c2 (c2 (c2 (c2 (c2 r4_PrintIP.B)))))))))))))))))))))), .inBlock 4, .inBlock 3, .code (c2 (c2 (c1 (c1 (c2 (c1 (c2 (c2 (c2 (c2 (c2 (c2 (c2 (c2 (c2 r4_PrintIP.B))))))))))))))), .inLoop (c1 (c1 (c2 (c1 (c2 (c2 (c2 (c2 (c2 (c2 (c2 (c2 (c2 r4_PrintIP.B))))))))))))), .inBlock 2, .code (c2 (c2 (c2 (c2 (c2 (c2 (c2 (c2 (c2 (c2 r4_PrintIP.B))))))))))] [(1, .pointer (some (pt b1 0))), (5, .int .i64 s8), (6, .int .i64 s9), (9, .string j102), (10, .int .i64 s15)] [(b1, c_api_IP.enc a0)] (r4_PrintIP.K1 a0 s15 j102) (r4_PrintIP.F1 a0 b1 s8 s9) := by
 unfold r4_PrintIP.K1
 refine SJ.draw (id := 23) (kd := [0, 0, 0, 0, 0, 1, 0, 0, 0, 0, 0, 0, 0, 1, 0, 0, 2, 0, 0]) (bef := [0, 0, 2, 0, 14, 30, 62, 126, 0, 256, 768, 0, 3840, 7936, 16128, 32766, 65534, 131071, 262143]) (ord := [0, 1, 2, 3, 4, 5, 6, 7, 8, 9, 10, 11, 12, 13, 14, 15, 16, 17, 18]) mixed ?_
 refine OJ.go 4 [(67, .pointer (some (pt b1 1))), (66, .int .i64 (IntKind.wrap .i64 (2 * s15))), (65, .int .i64 s15), (64, .string j102)] <| OJ.idxK (d := 68) (T := 26) (y := .tmp 67) (j := .tmp 66) (E := 5) (sz := 1) (b := b1) (o := 1) (k := .i64) (fun hb103 hb104 => ?_)
 refine OJ.kld (d := 69) (y := .tmp 68) (cd := (cI .u8)) (j := 0) (b := b1) (o := (1 + (IntKind.wrap .i64 (2 * s15)).toNat * 1)) (Vec.g a0.A (IntKind.wrap .i64 (2 * s15)) 0) (pend2 := [⟨5, 5, (pt b1 (1 + (IntKind.wrap .i64 (2 * s15)).toNat * 1)), (cI .u8).val (Vec.g a0.A (IntKind.wrap .i64 (2 * s15)) 0)⟩]) Ty5 rfl (At.trans (At_api_IP_A a0) (At.arr (z := 0) hb103 hb104)) rfl ?_
 refine OJ.go 6 [(75, .pointer (some (pt b1 1))), (74, .int .i64 (IntKind.wrap .i64 ((IntKind.wrap .i64 (2 * s15)) + 1))), (73, .int .i64 (IntKind.wrap .i64 (2 * s15))), (72, .int .i64 s15), (71, .int .i64 (IntKind.wrap .i64 (256 * (IntKind.wrap .i64 (Vec.g a0.A (IntKind.wrap .i64 (2 * s15)) 0))))), (70, .int .i64 (IntKind.wrap .i64 (Vec.g a0.A (IntKind.wrap .i64 (2 * s15)) 0)))] <| OJ.idxK (d := 76) (T := 26) (y := .tmp 75) (j := .tmp 74) (E := 5) (sz := 1) (b := b1) (o := 1) (k := .i64) (fun hb105 hb106 => ?_)
 refine OJ.kld (d := 77) (y := .tmp 76) (cd := (cI .u8)) (j := 0) (b := b1) (o := (1 + (IntKind.wrap .i64 ((IntKind.wrap .i64 (2 * s15)) + 1)).toNat * 1)) (Vec.g a0.A (IntKind.wrap .i64 ((IntKind.wrap .i64 (2 * s15)) + 1)) 0) (pend2 := [⟨13, 5, (pt b1 (1 + (IntKind.wrap .i64 ((IntKind.wrap .i64 (2 * s15)) + 1)).toNat * 1)), (cI .u8).val (Vec.g a0.A (IntKind.wrap .i64 ((IntKind.wrap .i64 (2 * s15)) + 1)) 0)⟩, ⟨5, 5, (pt b1 (1 + (IntKind.wrap .i64 (2 * s15)).toNat * 1)), (cI .u8).val (Vec.g a0.A (IntKind.wrap .i64 (2 * s15)) 0)⟩]) Ty5 rfl (At.trans (At_api_IP_A a0) (At.arr (z := 0) hb105 hb106)) rfl ?_
 refine OJ.go 2 [(79, .int .i64 (IntKind.wrap .i64 ((IntKind.wrap .i64 (256 * (IntKind.wrap .i64 (Vec.g a0.A (IntKind.wrap .i64 (2 * s15)) 0)))) + (IntKind.wrap .i64 (Vec.g a0.A (IntKind.wrap .i64 ((IntKind.wrap .i64 (2 * s15)) + 1)) 0))))), (78, .int .i64 (IntKind.wrap .i64 (Vec.g a0.A (IntKind.wrap .i64 ((IntKind.wrap .i64 (2 * s15)) + 1)) 0)))] <| OJ.call (d := 80) (g := 79) (ats := #[3]) (args := [.tmp 79]) (owed := []) F79 (r4_hex_ok (IntKind.wrap .i64 ((IntKind.wrap .i64 (256 * (IntKind.wrap .i64 (Vec.g a0.A (IntKind.wrap .i64 (2 * s15)) 0)))) + (IntKind.wrap .i64 (Vec.g a0.A (IntKind.wrap .i64 ((IntKind.wrap .i64 (2 * s15)) + 1)) 0))))) (fun r107 => ?_)
 refine OW.nil <| OJ.cat (d := 81) (T := 9) (yT := 9) (y := .tmp 64) (z := .tmp 80) (p := j102) (q := r107) ?_
 exact OJ.go 1 [(9, .string (j102 ++ r107))] <| OJ.nil <| SJ.inBlock <| SJ.inBlock <| SJ.rg 3 <| OJ.go 3 [(10, .int .i64 (IntKind.wrap .i64 (s15 + 1))), (44, .int .i64 (IntKind.wrap .i64 (s15 + 1))), (43, .int .i64 s15)] <| OJ.nil <| SJ.at_ [1, 5, 6, 9, 10] rfl
noncomputable def r4_PrintIP.L1 (a0 : api_IP) (s8 : Int) (s9 : Int) (s14 : ByteArray) (s15 : Int) : M (LS (ByteArray × Int) (ByteArray × Int)) :=
 if s15 < 8 then
  if s15 = s8 then
   chk (((s14.size + str0.size : Nat) : Int) ≤ 9223372036854775807) >>= fun _ =>
   pure (LS.next ((s14 ++ str0), IntKind.wrap .i64 (s15 + 1)))
  else
   (if s8 ≥ 0 then
     pure (decide (s15 > s8))
    else
     pure false) >>= fun y87 =>
   (if y87 = true then
     pure (decide (s15 < (IntKind.wrap .i64 (s8 + s9))))
    else
     pure false) >>= fun y88 =>
   if y88 = true then
    pure (LS.next (s14, IntKind.wrap .i64 (s15 + 1)))
   else
    (if s15 > 0 then
      pure (s15 != (IntKind.wrap .i64 (s8 + s9)))
     else
      pure false) >>= fun y99 =>
    (if y99 = true then
      pure true
     else
      (if s15 > 0 then
        pure (decide (s8 < 0))
       else
        pure false) >>= fun y100 =>
      pure y100) >>= fun y101 =>
    if y101 = true then
     chk (((s14.size + str1.size : Nat) : Int) ≤ 9223372036854775807) >>= fun _ =>
     r4_PrintIP.K1 a0 s15 (s14 ++ str1)
    else
     r4_PrintIP.K1 a0 s15 s14
 else
  pure (LS.done (s14, 0))
theorem r4_PrintIP.L1_ok (a0 : api_IP) (b1 : Nat) (s8 : Int) (s9 : Int) (s14 : ByteArray) (s15 : Int) :
  SJ r4_PrintIP.cx [.code (c1 (c1 (c2 (c1 (c2 (c2 (c2 (c2 (c2 (c2 (c2 (c2 (c2 r4_PrintIP.B))))))))))))), .inLoop (c1 (c1 (c2 (c1 (c2 (c2 (c2 (c2 (c2 (c2 (c2 (c2 (c2 r4_PrintIP.B))))))))))))), .inBlock 2, .code (c2 (c2 (c2 (c2 (c2 (c2 (c2 (c2 (c2 (c2 r4_PrintIP.B))))))))))] [(1, .pointer (some (pt b1 0))), (5, .int .i64 s8), (6, .int .i64 s9), (9, .string s14), (10, .int .i64 s15)] [(b1, c_api_IP.enc a0)] (r4_PrintIP.L1 a0 s8 s9 s14 s15) (r4_PrintIP.F1 a0 b1 s8 s9) := by
 unfold r4_PrintIP.L1
 refine SJ.seq <| SJ.sr 2 <| OJ.go 2 [(42, .bool (decide (s15 < 8))), (41, .int .i64 s15)] <| OJ.nil <| SJ.cond (t := (.tmp 42)) (b := decide (s15 < 8)) decide_eq_true_iff (fun hc111 => ?_) (fun hc111 => ?_)
 ·refine SJ.skip <| SJ.seq <| SJ.block (id := 3) <| SJ.block (id := 4) <| SJ.sr 4 <| OJ.go 4 [(82, .bool (s15 == s8)), (85, .bool (s15 == s8)), (84, .int .i64 s8), (83, .int .i64 s15)] <| OJ.nil <| SJ.cond (t := (.tmp 82)) (b := (s15 == s8)) beq_iff_eq (fun hc110 => ?_) (fun hc110 => ?_)
  ·refine SJ.rg 3 <| OJ.go 1 [(86, .string s14)] <| OJ.cat (d := 87) (T := 9) (yT := 9) (y := .tmp 86) (z := .const (.string str0)) (p := s14) (q := str0) ?_
   exact OJ.go 1 [(9, .string (s14 ++ str0))] <| OJ.nil <| SJ.inBlock <| SJ.inBlock <| SJ.rg 3 <| OJ.go 3 [(10, .int .i64 (IntKind.wrap .i64 (s15 + 1))), (44, .int .i64 (IntKind.wrap .i64 (s15 + 1))), (43, .int .i64 s15)] <| OJ.nil <| SJ.at_ [1, 5, 6, 9, 10] rfl
  ·refine SJ.sr 15 <| OJ.go 3 [(91, .bool (decide (s8 ≥ 0))), (90, .bool (decide (s8 ≥ 0))), (89, .int .i64 s8)] <| OJ.join (b := decide (s8 ≥ 0)) [3, 4, 5, 6] [7, 8, 9, 10, 11, 12, 13, 14] [1, 5, 6, 9, 10, 95] (fun y87 => [(1, .pointer (some (pt b1 0))), (5, .int .i64 s8), (6, .int .i64 s9), (9, .string s14), (10, .int .i64 s15), (95, .bool y87)]) [] [] (t := 91) decide_eq_true_iff (fun hp_ => ?_) (fun hp_ => ?_) (fun _ _ _ _ _ _ h_ => h_) (fun y87 => ?_)
   ·exact OJ.go 4 [(95, .bool (decide (s15 > s8))), (94, .bool (decide (s15 > s8))), (93, .int .i64 s8), (92, .int .i64 s15)] <| OJ.x0
   ·exact OJ.go 4 [(95, .bool false), (94, undef), (93, undef), (92, undef)] <| OJ.x0
   ·refine OJ.go 1 [(96, .bool y87)] <| OJ.join (b := y87) [8, 9, 10, 11, 12, 13] [14] [1, 5, 6, 9, 10, 102] (fun y88 => [(1, .pointer (some (pt b1 0))), (5, .int .i64 s8), (6, .int .i64 s9), (9, .string s14), (10, .int .i64 s15), (102, .bool y88)]) [] [] (t := 96) Iff.rfl (fun hp_ => ?_) (fun hp_ => ?_) (fun _ _ _ _ _ _ h_ => h_) (fun y88 => ?_)
    ·exact OJ.go 6 [(102, .bool (decide (s15 < (IntKind.wrap .i64 (s8 + s9))))), (101, .bool (decide (s15 < (IntKind.wrap .i64 (s8 + s9))))), (100, .int .i64 (IntKind.wrap .i64 (s8 + s9))), (99, .int .i64 s9), (98, .int .i64 s8), (97, .int .i64 s15)] <| OJ.x0
    ·exact OJ.go 6 [(102, .bool false), (101, undef), (100, undef), (99, undef), (98, undef), (97, undef)] <| OJ.x0
    ·refine OJ.go 1 [(88, .bool y88)] <| OJ.nil <| SJ.cond (t := (.tmp 88)) (b := y88) Iff.rfl (fun hc109 => ?_) (fun hc109 => ?_)
     ·exact SJ.skip <| SJ.inBlock <| SJ.inBlock <| SJ.rg 3 <| OJ.go 3 [(10, .int .i64 (IntKind.wrap .i64 (s15 + 1))), (44, .int .i64 (IntKind.wrap .i64 (s15 + 1))), (43, .int .i64 s15)] <| OJ.nil <| SJ.at_ [1, 5, 6, 9, 10] rfl
     ·refine SJ.seq <| SJ.sr 17 <| OJ.go 3 [(47, .bool (decide (s15 > 0))), (46, .bool (decide (s15 > 0))), (45, .int .i64 s15)] <| OJ.join (b := decide (s15 > 0)) [3, 4, 5, 6, 7, 8] [9, 10, 11, 12, 13, 14, 15, 16] [1, 5, 6, 9, 10, 53] (fun y99 => [(1, .pointer (some (pt b1 0))), (5, .int .i64 s8), (6, .int .i64 s9), (9, .string s14), (10, .int .i64 s15), (53, .bool y99)]) [] [] (t := 47) decide_eq_true_iff (fun hp_ => ?_) (fun hp_ => ?_) (fun _ _ _ _ _ _ h_ => h_) (fun y99 => ?_)
      ·exact OJ.go 6 [(53, .bool (s15 != (IntKind.wrap .i64 (s8 + s9)))), (52, .bool (s15 != (IntKind.wrap .i64 (s8 + s9)))), (51, .int .i64 (IntKind.wrap .i64 (s8 + s9))), (50, .int .i64 s9), (49, .int .i64 s8), (48, .int .i64 s15)] <| OJ.x0
      ·exact OJ.go 6 [(53, .bool false), (52, undef), (51, undef), (50, undef), (49, undef), (48, undef)] <| OJ.x0
      ·refine OJ.go 1 [(54, .bool y99)] <| OJ.join (b := y99) [10, 11, 12, 13, 14, 15, 16] [] [1, 5, 6, 9, 10, 61] (fun y101 => [(1, .pointer (some (pt b1 0))), (5, .int .i64 s8), (6, .int .i64 s9), (9, .string s14), (10, .int .i64 s15), (61, .bool y101)]) [] [] (t := 54) Iff.rfl (fun hp_ => ?_) (fun hp_ => ?_) (fun _ _ _ _ _ _ h_ => h_) (fun y101 => ?_)
       ·exact OJ.go 7 [(61, .bool true), (60, undef), (59, undef), (58, undef), (57, undef), (56, undef), (55, undef)] <| OJ.x0
       ·refine OJ.go 3 [(57, .bool (decide (s15 > 0))), (56, .bool (decide (s15 > 0))), (55, .int .i64 s15)] <| OJ.join (b := decide (s15 > 0)) [13, 14, 15] [16] [1, 5, 6, 9, 10, 54, 60] (fun y100 => [(1, .pointer (some (pt b1 0))), (5, .int .i64 s8), (6, .int .i64 s9), (9, .string s14), (10, .int .i64 s15), (54, .bool false), (60, .bool y100)]) [] [] (t := 57) decide_eq_true_iff (fun hp_ => ?_) (fun hp_ => ?_) (fun _ _ _ _ _ hq_ h_ => ⟨fun e_ he_ => (hq_ e_ he_).elim (fun h => h_.1 e_ h) (fun h => nomatch h), h_.2⟩) (fun y100 => ?_)
        ·exact OJ.go 3 [(60, .bool (decide (s8 < 0))), (59, .bool (decide (s8 < 0))), (58, .int .i64 s8)] <| OJ.x0
        ·exact OJ.go 3 [(60, .bool false), (59, undef), (58, undef)] <| OJ.x0
        ·exact OJ.go 1 [(61, .bool y100)] <| OJ.x0
       ·refine OJ.nil <| SJ.cond (t := (.tmp 61)) (b := y101) Iff.rfl (fun hc108 => ?_) (fun hc108 => ?_)
        ·refine SJ.rg 3 <| OJ.go 1 [(62, .string s14)] <| OJ.cat (d := 63) (T := 9) (yT := 9) (y := .tmp 62) (z := .const (.string str1)) (p := s14) (q := str1) ?_
         refine OJ.go 1 [(9, .string (s14 ++ str1))] <| OJ.nil <| SJ.less [1, 5, 6, 9, 10] (m' := [(1, .pointer (some (pt b1 0))), (5, .int .i64 s8), (6, .int .i64 s9), (9, .string (s14 ++ str1)), (10, .int .i64 s15)]) ?_
         exact r4_PrintIP.K1_ok a0 b1 s8 s9 s15 (s14 ++ str1)
        ·refine SJ.skip <| SJ.less [1, 5, 6, 9, 10] (m' := [(1, .pointer (some (pt b1 0))), (5, .int .i64 s8), (6, .int .i64 s9), (9, .string s14), (10, .int .i64 s15)]) ?_
         exact r4_PrintIP.K1_ok a0 b1 s8 s9 s15 s14
 ·exact SJ.exit (id := 2) (by rfl) <| SJ.sr 3 <| OJ.go 3 [(3, .int .i64 0), (2, .string s14), (103, .string s14)] <| OJ.nil <| SJ.r2 (.string s14) (.int .i64 0) rfl rfl
noncomputable def r4_PrintIP.K2 (a0 : api_IP) (s8 : Int) (s9 : Int) : M (ByteArray × Int) :=
 loopM (fun s_ : (ByteArray × Int) => r4_PrintIP.L1 a0 s8 s9 s_.1 s_.2) (ByteArray.empty, 0)
theorem r4_PrintIP.K2_ok (a0 : api_IP) (b1 : Nat) (s8 : Int) (s9 : Int) :
  SJ r4_PrintIP.cx [.code (c2 (c2 (c2 (c2 (c2 (c2 (c2 (c2 r4_PrintIP.B))))))))] [(1, .pointer (some (pt b1 0))), (5, .int .i64 s8), (6, .int .i64 s9)] [(b1, c_api_IP.enc a0)] (r4_PrintIP.K2 a0 s8 s9) r4_PrintIP.F0 := by
 unfold r4_PrintIP.K2
 exact SJ.sr 1 <| OJ.go 1 [(9, .string ByteArray.empty)] <| OJ.nil <| SJ.seq <| SJ.sr 1 <| OJ.go 1 [(10, .int .i64 0)] <| OJ.nil <| SJ.block (id := 2) <| SJ.loop (fun s_ : (ByteArray × Int) => [(1, .pointer (some (pt b1 0))), (5, .int .i64 s8), (6, .int .i64 s9), (9, .string s_.1), (10, .int .i64 s_.2)]) (fun s_ : (ByteArray × Int) => [(b1, c_api_IP.enc a0)]) [1, 5, 6, 9, 10] rfl (fun _ _ => rfl) (fun s_ => r4_PrintIP.L1_ok a0 b1 s8 s9 s_.1 s_.2)
noncomputable def r4_PrintIP.F2 (a0 : api_IP) (b1 : Nat) : (LS (Int × Int × Int) (ByteArray × Int)) → Reach := loopF [.inLoop (c1 (c1 (c2 (c1 (c2 (c2 (c2 (c2 (c2 (c2 (c2 r4_PrintIP.B))))))))))), .inBlock 0, .code (c2 (c2 (c2 (c2 (c2 (c2 (c2 (c2 r4_PrintIP.B))))))))] (fun s_ : (Int × Int × Int) => [(1, .pointer (some (pt b1 0))), (5, .int .i64 s_.1), (6, .int .i64 s_.2.1), (7, .int .i64 s_.2.2)]) (fun s_ : (Int × Int × Int) => [(b1, c_api_IP.enc a0)]) r4_PrintIP.F0
noncomputable def r4_PrintIP.L2 (a0 : api_IP) (s8 : Int) (s9 : Int) (s10 : Int) : M (LS (Int × Int × Int) (ByteArray × Int)) :=
 if s10 < 8 then
  r4_zeros a0.A s10 >>= fun r112 =>
  if r112 > s9 then
   pure (LS.next (s10, r112, IntKind.wrap .i64 (s10 + 1)))
  else
   pure (LS.next (s8, s9, IntKind.wrap .i64 (s10 + 1)))
 else
  (r4_PrintIP.K2 a0 s8 s9) >>= fun b => pure (LS.done b)
theorem r4_PrintIP.L2_ok (a0 : api_IP) (b1 : Nat) (s8 : Int) (s9 : Int) (s10 : Int) :
  SJ r4_PrintIP.cx [.code (c1 (c1 (c2 (c1 (c2 (c2 (c2 (c2 (c2 (c2 (c2 r4_PrintIP.B))))))))))), .inLoop (c1 (c1 (c2 (c1 (c2 (c2 (c2 (c2 (c2 (c2 (c2 r4_PrintIP.B))))))))))), .inBlock 0, .code (c2 (c2 (c2 (c2 (c2 (c2 (c2 (c2 r4_PrintIP.B))))))))] [(1, .pointer (some (pt b1 0))), (5, .int .i64 s8), (6, .int .i64 s9), (7, .int .i64 s10)] [(b1, c_api_IP.enc a0)] (r4_PrintIP.L2 a0 s8 s9 s10) (r4_PrintIP.F2 a0 b1) := by
 unfold r4_PrintIP.L2
 refine SJ.seq <| SJ.sr 2 <| OJ.go 2 [(29, .bool (decide (s10 < 8))), (28, .int .i64 s10)] <| OJ.nil <| SJ.cond (t := (.tmp 29)) (b := decide (s10 < 8)) decide_eq_true_iff (fun hc114 => ?_) (fun hc114 => ?_)
 ·refine SJ.skip <| SJ.seq <| SJ.block (id := 1) <| SJ.sr 5 <| OJ.go 1 [(32, .pointer (some (pt b1 1)))] <| OJ.kld (d := 33) (y := .tmp 32) (cd := ((cI .u8).arr 16)) (j := 0) (b := b1) (o := 1) a0.A (pend2 := []) Ty26 rfl (At_api_IP_A a0) rfl ?_
  refine OJ.go 1 [(34, .int .i64 s10)] <| OJ.call (d := 35) (g := 78) (ats := #[26, 3]) (args := [.tmp 33, .tmp 34]) (owed := []) F78 (r4_zeros_ok a0.A s10) (fun r112 => ?_)
  refine OW.nil <| OJ.go 1 [(8, .int .i64 r112)] <| OJ.nil <| SJ.sr 3 <| OJ.go 3 [(38, .bool (decide (r112 > s9))), (37, .int .i64 s9), (36, .int .i64 r112)] <| OJ.nil <| SJ.cond (t := (.tmp 38)) (b := decide (r112 > s9)) decide_eq_true_iff (fun hc113 => ?_) (fun hc113 => ?_)
  ·exact SJ.sr 2 <| OJ.go 2 [(5, .int .i64 s10), (39, .int .i64 s10)] <| OJ.nil <| SJ.rg 2 <| OJ.go 2 [(6, .int .i64 r112), (40, .int .i64 r112)] <| OJ.nil <| SJ.inBlock <| SJ.rg 3 <| OJ.go 3 [(7, .int .i64 (IntKind.wrap .i64 (s10 + 1))), (31, .int .i64 (IntKind.wrap .i64 (s10 + 1))), (30, .int .i64 s10)] <| OJ.nil <| SJ.at_ [1, 5, 6, 7] rfl
  ·exact SJ.skip <| SJ.inBlock <| SJ.rg 3 <| OJ.go 3 [(7, .int .i64 (IntKind.wrap .i64 (s10 + 1))), (31, .int .i64 (IntKind.wrap .i64 (s10 + 1))), (30, .int .i64 s10)] <| OJ.nil <| SJ.at_ [1, 5, 6, 7] rfl
 ·refine SJ.exit (id := 0) (by rfl) <| SJ.less [1, 5, 6] (m' := [(1, .pointer (some (pt b1 0))), (5, .int .i64 s8), (6, .int .i64 s9)]) ?_
  refine SJ.done ?_
  exact r4_PrintIP.K2_ok a0 b1 s8 s9
noncomputable def r4_PrintIP (a0 : api_IP) : M (ByteArray × Int) :=
 slot 28 >>= fun b1 =>
 r4_Valid a0 >>= fun r2 =>
 if ¬ (r2 = true) then
  pure (ByteArray.empty, 40)
 else
  if a0.V = 4 then
   r4_dots a0.A 0 >>= fun r4 =>
   pure (r4, 0)
  else
   r4_mapped a0.A >>= fun r5 =>
   if r5 = true then
    r4_dots a0.A 12 >>= fun r7 =>
    chk (((str9.size + r7.size : Nat) : Int) ≤ 9223372036854775807) >>= fun _ =>
    pure ((str9 ++ r7), 0)
   else
    loopM (fun s_ : (Int × Int × Int) => r4_PrintIP.L2 a0 s_.1 s_.2.1 s_.2.2) ((-1), 1, 0)
theorem r4_PrintIP_ok (a0 : api_IP) : Ref Tryz.prog 41 [c_api_IP.val a0] (r4_PrintIP a0) r4_PrintIP.out := by
 refine Ref.of (cd := r4_PrintIP.B) Tryz.func41 ?_
 show SJ r4_PrintIP.cx [.code r4_PrintIP.B] [(0, c_api_IP.val a0)] [] (r4_PrintIP a0) r4_PrintIP.F0
 unfold r4_PrintIP
 refine SJ.sr 3 <| OJ.slotOf (d := 1) (op := (.box 28 (.tmp 0))) (cd := c_api_IP) (u := a0) (owed := []) (box_run (by kernel_rfl)) (fun b1 => ?_)
 refine OW.nil <| OJ.go 2 [(3, .int .i64 0), (2, .string ByteArray.empty)] <| OJ.nil <| SJ.sr 3 <| OJ.kld (d := 11) (y := .tmp 1) (cd := c_api_IP) (j := 0) (b := b1) (o := 0) a0 (pend2 := []) Ty28 rfl (At.whole _) rfl ?_
 refine OJ.call (d := 12) (g := 46) (ats := #[28]) (args := [.tmp 11]) (owed := []) F46 (r4_Valid_ok a0) (fun r2 => ?_)
 refine OW.nil <| OJ.go 1 [(4, .bool r2)] <| OJ.nil <| SJ.seq <| SJ.sr 2 <| OJ.go 2 [(14, .bool (!r2)), (13, .bool r2)] <| OJ.nil <| SJ.cond (t := (.tmp 14)) (b := (!r2)) (bnot_iff Iff.rfl) (fun hc117 => ?_) (fun hc117 => ?_)
 ·exact SJ.sr 2 <| OJ.go 2 [(3, .int .i64 40), (2, .string ByteArray.empty)] <| OJ.nil <| SJ.r2 (.string ByteArray.empty) (.int .i64 40) rfl rfl
 ·refine SJ.skip <| SJ.seq <| SJ.sr 3 <| OJ.go 1 [(15, .pointer (some (pt b1 0)))] <| OJ.kld (d := 16) (y := .tmp 15) (cd := (cI .i64)) (j := 0) (b := b1) (o := 0) a0.V (pend2 := []) Ty3 rfl (At_api_IP_V a0) rfl ?_
  refine OJ.go 1 [(17, .bool (a0.V == 4))] <| OJ.nil <| SJ.cond (t := (.tmp 17)) (b := (a0.V == 4)) beq_iff_eq (fun hc116 => ?_) (fun hc116 => ?_)
  ·refine SJ.sr 5 <| OJ.go 1 [(18, .pointer (some (pt b1 1)))] <| OJ.kld (d := 19) (y := .tmp 18) (cd := ((cI .u8).arr 16)) (j := 0) (b := b1) (o := 1) a0.A (pend2 := []) Ty26 rfl (At_api_IP_A a0) rfl ?_
   refine OJ.call (d := 20) (g := 76) (ats := #[26, 3]) (args := [.tmp 19, .const (.int .i64 0)]) (owed := []) F76 (r4_dots_ok a0.A 0) (fun r4 => ?_)
   exact OW.nil <| OJ.go 2 [(3, .int .i64 0), (2, .string r4)] <| OJ.nil <| SJ.r2 (.string r4) (.int .i64 0) rfl rfl
  ·refine SJ.skip <| SJ.seq <| SJ.sr 3 <| OJ.go 1 [(21, .pointer (some (pt b1 1)))] <| OJ.kld (d := 22) (y := .tmp 21) (cd := ((cI .u8).arr 16)) (j := 0) (b := b1) (o := 1) a0.A (pend2 := []) Ty26 rfl (At_api_IP_A a0) rfl ?_
   refine OJ.call (d := 23) (g := 77) (ats := #[26]) (args := [.tmp 22]) (owed := []) F77 (r4_mapped_ok a0.A) (fun r5 => ?_)
   refine OW.nil <| OJ.nil <| SJ.cond (t := (.tmp 23)) (b := r5) Iff.rfl (fun hc115 => ?_) (fun hc115 => ?_)
   ·refine SJ.sr 6 <| OJ.go 1 [(24, .pointer (some (pt b1 1)))] <| OJ.kld (d := 25) (y := .tmp 24) (cd := ((cI .u8).arr 16)) (j := 0) (b := b1) (o := 1) a0.A (pend2 := []) Ty26 rfl (At_api_IP_A a0) rfl ?_
    refine OJ.call (d := 26) (g := 76) (ats := #[26, 3]) (args := [.tmp 25, .const (.int .i64 12)]) (owed := []) F76 (r4_dots_ok a0.A 12) (fun r7 => ?_)
    refine OW.nil <| OJ.cat (d := 27) (T := 9) (yT := 9) (y := .const (.string str9)) (z := .tmp 26) (p := str9) (q := r7) ?_
    exact OJ.go 2 [(3, .int .i64 0), (2, .string (str9 ++ r7))] <| OJ.nil <| SJ.r2 (.string (str9 ++ r7)) (.int .i64 0) rfl rfl
   ·exact SJ.skip <| SJ.sr 1 <| OJ.go 1 [(5, .int .i64 (-1))] <| OJ.nil <| SJ.sr 1 <| OJ.go 1 [(6, .int .i64 1)] <| OJ.nil <| SJ.seq <| SJ.sr 1 <| OJ.go 1 [(7, .int .i64 0)] <| OJ.nil <| SJ.block (id := 0) <| SJ.loop (fun s_ : (Int × Int × Int) => [(1, .pointer (some (pt b1 0))), (5, .int .i64 s_.1), (6, .int .i64 s_.2.1), (7, .int .i64 s_.2.2)]) (fun s_ : (Int × Int × Int) => [(b1, c_api_IP.enc a0)]) [1, 5, 6, 7] rfl (fun _ _ => rfl) (fun s_ => r4_PrintIP.L2_ok a0 b1 s_.1 s_.2.1 s_.2.2)

/-! ### weir/addr.PrintPrefix: function 42 -/
noncomputable def addr_PrintPrefix.B : Code := (Tryz.f42.body).getD .skip
noncomputable def addr_PrintPrefix.cx : Fx := ⟨Tryz.prog, 42, Tryz.f42⟩
noncomputable def addr_PrintPrefix.out (r_ : (ByteArray × Int)) : Value := .tuple #[.string r_.1, .int .i64 r_.2]
noncomputable def addr_PrintPrefix.F0 (r_ : (ByteArray × Int)) : Reach := .ret (addr_PrintPrefix.out r_)
noncomputable def addr_PrintPrefix (a0 : api_Prefix) : M (ByteArray × Int) :=
 slot 38 >>= fun b1 =>
 addr_ValidPrefix a0 >>= fun r2 =>
 if r2 ≠ 0 then
  pure (ByteArray.empty, r2)
 else
  addr_PrintIP a0.IP >>= fun r3 =>
  chk (((r3.1.size + str11.size : Nat) : Int) ≤ 9223372036854775807) >>= fun _ =>
  strconv_Itoa_ a0.Len >>= fun r4 =>
  chk ((((r3.1 ++ str11).size + r4.size : Nat) : Int) ≤ 9223372036854775807) >>= fun _ =>
  pure (((r3.1 ++ str11) ++ r4), 0)
theorem addr_PrintPrefix_ok (a0 : api_Prefix) : Ref Tryz.prog 42 [c_api_Prefix.val a0] (addr_PrintPrefix a0) addr_PrintPrefix.out := by
 refine Ref.of (cd := addr_PrintPrefix.B) Tryz.func42 ?_
 show SJ addr_PrintPrefix.cx [.code addr_PrintPrefix.B] [(0, c_api_Prefix.val a0)] [] (addr_PrintPrefix a0) addr_PrintPrefix.F0
 unfold addr_PrintPrefix
 refine SJ.sr 3 <| OJ.slotOf (d := 1) (op := (.box 38 (.tmp 0))) (cd := c_api_Prefix) (u := a0) (owed := []) (box_run (by kernel_rfl)) (fun b1 => ?_)
 refine OW.nil <| OJ.go 2 [(3, .int .i64 0), (2, .string ByteArray.empty)] <| OJ.nil <| SJ.seq <| SJ.sr 3 <| OJ.kld (d := 7) (y := .tmp 1) (cd := c_api_Prefix) (j := 0) (b := b1) (o := 0) a0 (pend2 := []) Ty38 rfl (At.whole _) rfl ?_
 refine OJ.call (d := 8) (g := 47) (ats := #[38]) (args := [.tmp 7]) (owed := []) F47 (addr_ValidPrefix_ok a0) (fun r2 => ?_)
 refine OW.nil <| OJ.go 1 [(4, .int .i64 r2)] <| OJ.nil <| SJ.sr 2 <| OJ.go 2 [(10, .bool (r2 != 0)), (9, .int .i64 r2)] <| OJ.nil <| SJ.cond (t := (.tmp 10)) (b := (r2 != 0)) bne_iff_ne (fun hc5 => ?_) (fun hc5 => ?_)
 ·exact SJ.sr 3 <| OJ.go 3 [(3, .int .i64 r2), (2, .string ByteArray.empty), (11, .int .i64 r2)] <| OJ.nil <| SJ.r2 (.string ByteArray.empty) (.int .i64 r2) rfl rfl
 ·refine SJ.skip <| SJ.sr 8 <| OJ.go 1 [(13, .pointer (some (pt b1 0)))] <| OJ.kld (d := 14) (y := .tmp 13) (cd := c_api_IP) (j := 0) (b := b1) (o := 0) a0.IP (pend2 := []) Ty28 rfl (At_api_Prefix_IP a0) rfl ?_
  refine OJ.call (d := 15) (g := 10) (ats := #[28]) (args := [.tmp 14]) (owed := []) F10 (addr_PrintIP_ok a0.IP) (fun r3 => ?_)
  refine OW.nil <| OJ.go 5 [(6, .int .i64 r3.2), (5, .string r3.1), (17, .int .i64 r3.2), (16, .string r3.1), (12, .tuple #[.string r3.1, .int .i64 r3.2])] <| OJ.nil <| SJ.sr 8 <| OJ.go 1 [(18, .string r3.1)] <| OJ.cat (d := 19) (T := 9) (yT := 9) (y := .tmp 18) (z := .const (.string str11)) (p := r3.1) (q := str11) ?_
  refine OJ.go 1 [(20, .pointer (some (pt b1 17)))] <| OJ.kld (d := 21) (y := .tmp 20) (cd := (cI .i64)) (j := 0) (b := b1) (o := 17) a0.Len (pend2 := []) Ty3 rfl (At_api_Prefix_Len a0) rfl ?_
  refine OJ.call (d := 22) (g := 33) (ats := #[3]) (args := [.tmp 21]) (owed := []) F33 (strconv_Itoa__ok a0.Len) (fun r4 => ?_)
  refine OW.nil <| OJ.cat (d := 23) (T := 9) (yT := 9) (y := .tmp 19) (z := .tmp 22) (p := (r3.1 ++ str11)) (q := r4) ?_
  exact OJ.go 2 [(3, .int .i64 0), (2, .string ((r3.1 ++ str11) ++ r4))] <| OJ.nil <| SJ.r2 (.string ((r3.1 ++ str11) ++ r4)) (.int .i64 0) rfl rfl

/-! ### weir/weirref4.PrintPrefix: function 43 -/
noncomputable def r4_PrintPrefix.B : Code := (Tryz.f43.body).getD .skip
noncomputable def r4_PrintPrefix.cx : Fx := ⟨Tryz.prog, 43, Tryz.f43⟩
noncomputable def r4_PrintPrefix.out (r_ : (ByteArray × Int)) : Value := .tuple #[.string r_.1, .int .i64 r_.2]
noncomputable def r4_PrintPrefix.F0 (r_ : (ByteArray × Int)) : Reach := .ret (r4_PrintPrefix.out r_)
noncomputable def r4_PrintPrefix (a0 : api_Prefix) : M (ByteArray × Int) :=
 slot 38 >>= fun b1 =>
 r4_ValidPrefix a0 >>= fun r2 =>
 if r2 ≠ 0 then
  pure (ByteArray.empty, r2)
 else
  r4_PrintIP a0.IP >>= fun r3 =>
  chk (((r3.1.size + str11.size : Nat) : Int) ≤ 9223372036854775807) >>= fun _ =>
  r4_number a0.Len >>= fun r4 =>
  chk ((((r3.1 ++ str11).size + r4.size : Nat) : Int) ≤ 9223372036854775807) >>= fun _ =>
  pure (((r3.1 ++ str11) ++ r4), 0)
theorem r4_PrintPrefix_ok (a0 : api_Prefix) : Ref Tryz.prog 43 [c_api_Prefix.val a0] (r4_PrintPrefix a0) r4_PrintPrefix.out := by
 refine Ref.of (cd := r4_PrintPrefix.B) Tryz.func43 ?_
 show SJ r4_PrintPrefix.cx [.code r4_PrintPrefix.B] [(0, c_api_Prefix.val a0)] [] (r4_PrintPrefix a0) r4_PrintPrefix.F0
 unfold r4_PrintPrefix
 refine SJ.sr 3 <| OJ.slotOf (d := 1) (op := (.box 38 (.tmp 0))) (cd := c_api_Prefix) (u := a0) (owed := []) (box_run (by kernel_rfl)) (fun b1 => ?_)
 refine OW.nil <| OJ.go 2 [(3, .int .i64 0), (2, .string ByteArray.empty)] <| OJ.nil <| SJ.sr 3 <| OJ.kld (d := 7) (y := .tmp 1) (cd := c_api_Prefix) (j := 0) (b := b1) (o := 0) a0 (pend2 := []) Ty38 rfl (At.whole _) rfl ?_
 refine OJ.call (d := 8) (g := 48) (ats := #[38]) (args := [.tmp 7]) (owed := []) F48 (r4_ValidPrefix_ok a0) (fun r2 => ?_)
 refine OW.nil <| OJ.go 1 [(4, .int .i64 r2)] <| OJ.nil <| SJ.seq <| SJ.sr 2 <| OJ.go 2 [(10, .bool (r2 != 0)), (9, .int .i64 r2)] <| OJ.nil <| SJ.cond (t := (.tmp 10)) (b := (r2 != 0)) bne_iff_ne (fun hc5 => ?_) (fun hc5 => ?_)
 ·exact SJ.sr 3 <| OJ.go 3 [(3, .int .i64 r2), (2, .string ByteArray.empty), (11, .int .i64 r2)] <| OJ.nil <| SJ.r2 (.string ByteArray.empty) (.int .i64 r2) rfl rfl
 ·refine SJ.skip <| SJ.sr 8 <| OJ.go 1 [(13, .pointer (some (pt b1 0)))] <| OJ.kld (d := 14) (y := .tmp 13) (cd := c_api_IP) (j := 0) (b := b1) (o := 0) a0.IP (pend2 := []) Ty28 rfl (At_api_Prefix_IP a0) rfl ?_
  refine OJ.call (d := 15) (g := 41) (ats := #[28]) (args := [.tmp 14]) (owed := []) F41 (r4_PrintIP_ok a0.IP) (fun r3 => ?_)
  refine OW.nil <| OJ.go 5 [(6, .int .i64 r3.2), (5, .string r3.1), (17, .int .i64 r3.2), (16, .string r3.1), (12, .tuple #[.string r3.1, .int .i64 r3.2])] <| OJ.nil <| SJ.sr 8 <| OJ.go 1 [(18, .string r3.1)] <| OJ.cat (d := 19) (T := 9) (yT := 9) (y := .tmp 18) (z := .const (.string str11)) (p := r3.1) (q := str11) ?_
  refine OJ.go 1 [(20, .pointer (some (pt b1 17)))] <| OJ.kld (d := 21) (y := .tmp 20) (cd := (cI .i64)) (j := 0) (b := b1) (o := 17) a0.Len (pend2 := []) Ty3 rfl (At_api_Prefix_Len a0) rfl ?_
  refine OJ.call (d := 22) (g := 80) (ats := #[3]) (args := [.tmp 21]) (owed := []) F80 (r4_number_ok a0.Len) (fun r4 => ?_)
  refine OW.nil <| OJ.cat (d := 23) (T := 9) (yT := 9) (y := .tmp 19) (z := .tmp 22) (p := (r3.1 ++ str11)) (q := r4) ?_
  exact OJ.go 2 [(3, .int .i64 0), (2, .string ((r3.1 ++ str11) ++ r4))] <| OJ.nil <| SJ.r2 (.string ((r3.1 ++ str11) ++ r4)) (.int .i64 0) rfl rfl

/-! ### (*strings.Builder).WriteByte: function 81 -/
noncomputable def strings_Builder_WriteByte.B : Code := (Tryz.f81.body).getD .skip
noncomputable def strings_Builder_WriteByte.cx : Fx := ⟨Tryz.prog, 81, Tryz.f81⟩
noncomputable def strings_Builder_WriteByte.out (r_ : Any) : Value := r_.v
noncomputable def strings_Builder_WriteByte.F0 (r_ : Any) : Reach := .ret (strings_Builder_WriteByte.out r_)
noncomputable def strings_Builder_WriteByte (a0 : (Option Addr)) (a1 : Int) : M Any :=
 strings_Builder_copyCheck a0 >>= fun r1 =>
 nilck a0 >>= fun p2 =>
 ld cL (Addr.add p2 1) >>= fun x3 =>
 slot 5 >>= fun b4 =>
 appl (cI .u8) 5 1 0 x3 [a1] >>= fun r5 =>
 nilck a0 >>= fun p6 =>
 st cL (Addr.add p6 1) r5 >>= fun _ =>
 pure (⟨.nilIface, rfl⟩ : Any)
theorem strings_Builder_WriteByte_ok (a0 : (Option Addr)) (a1 : Int) : Ref Tryz.prog 81 [.pointer a0, .int .u8 a1] (strings_Builder_WriteByte a0 a1) strings_Builder_WriteByte.out := by
 refine Ref.of (cd := strings_Builder_WriteByte.B) Tryz.func81 ?_
 show SJ strings_Builder_WriteByte.cx [.code strings_Builder_WriteByte.B] [(0, .pointer a0), (1, .int .u8 a1)] [] (strings_Builder_WriteByte a0 a1) strings_Builder_WriteByte.F0
 unfold strings_Builder_WriteByte
 refine SJ.sr 1 <| OJ.go 1 [(4, (⟨.nilIface, rfl⟩ : Any).v)] <| OJ.nil <| SJ.sr 2 <| OJ.go 1 [(5, .pointer a0)] <| OJ.call (d := 6) (g := 88) (ats := #[111]) (args := [.tmp 5]) (owed := []) F88 (strings_Builder_copyCheck_ok a0) (fun r1 => ?_)
 refine OW.nil <| OJ.nil <| SJ.sr 11 <| OJ.go 2 [(8, .pointer a0), (7, .pointer a0)] <| OJ.nilck (d := 9) (y := .tmp 8) (fun p2 => ?_)
 refine OJ.go 1 [(10, .pointer (some (Addr.add p2 1)))] <| OJ.ld (d := 11) (y := .tmp 10) (pend2 := fun x3 => []) Ty51 (fun _ => rfl) (fun x3 => ?_)
 refine OJ.go 1 [(12, .int .u8 a1)] <| OJ.rowSlot (d := 13) (t := 51) (parts := [(0, .tmp 12)]) (ps := [(0, (cI .u8).val a1)]) (cd := (cI .u8)) (⟨[a1], rfl⟩ : Vec Int 1) (owed := []) Ty5 (Filled.cons (cd := (cI .u8)) (q := a1) (o := 0) rfl (Upd.arr (i := 0) (by decide) (by decide)) Filled.nil) (fun b4 => ?_)
 refine OW.nil <| OJ.appl (d := 14) (t := 51) (u := 51) (so := .tmp 11) (xo := .tmp 13) (j := 0) (b := b4) (l := ((cI .u8).arr 1).enc (⟨[a1], rfl⟩ : Vec Int 1)) (n := 1) (k := 1) [a1] (owed := []) Ty5 (by rfl) (Cod.arr_enc _ _ _) (by rfl) (fun r5 => ?_)
 refine OW.nil <| OJ.nilck (d := 15) (y := .tmp 7) (fun p6 => ?_)
 refine OJ.go 1 [(16, .pointer (some (Addr.add p6 1)))] <| OJ.st (y := .tmp 16) (z := .tmp 14) (owed := []) Ty51 ?_
 exact OW.nil <| OJ.nil <| SJ.sr 1 <| OJ.go 1 [(4, (⟨.nilIface, rfl⟩ : Any).v)] <| OJ.nil <| SJ.r1 ((⟨.nilIface, rfl⟩ : Any).v) rfl rfl

/-! ### weir/addr.PrintMac: function 44 -/
noncomputable def addr_PrintMac.B : Code := (Tryz.f44.body).getD .skip
noncomputable def addr_PrintMac.cx : Fx := ⟨Tryz.prog, 44, Tryz.f44⟩
noncomputable def addr_PrintMac.out (r_ : ByteArray) : Value := .string r_
noncomputable def addr_PrintMac.F0 (r_ : ByteArray) : Reach := .ret (addr_PrintMac.out r_)
noncomputable def addr_PrintMac.F1 (a0 : (Vec Int 6)) (b2 : Nat) : (LS Int ByteArray) → Reach := loopF [.inLoop (c1 (c1 (c2 (c1 (c2 (c2 addr_PrintMac.B)))))), .inBlock 0, .code (c2 (c2 (c2 addr_PrintMac.B)))] (fun s_ : Int => [(3, .pointer (some (pt b2 0))), (6, ((cI .u8).arr 6).val a0), (7, .int .i64 s_)]) (fun s_ : Int => []) addr_PrintMac.F0
noncomputable def addr_PrintMac.K1 (a0 : (Vec Int 6)) (b2 : Nat) (s3 : Int) : M (LS Int ByteArray) :=
 chk ((0 : Int) ≤ (Int.fdiv (Vec.g a0 s3 0) (2 ^ 4)) ∧ (Int.fdiv (Vec.g a0 s3 0) (2 ^ 4)) < (str12.size : Int)) >>= fun _ =>
 strings_Builder_WriteByte (some (pt b2 0)) (sb str12 (Int.fdiv (Vec.g a0 s3 0) (2 ^ 4))) >>= fun r22 =>
 chk ((0 : Int) ≤ (band .u8 (Vec.g a0 s3 0) 15) ∧ (band .u8 (Vec.g a0 s3 0) 15) < (str12.size : Int)) >>= fun _ =>
 strings_Builder_WriteByte (some (pt b2 0)) (sb str12 (band .u8 (Vec.g a0 s3 0) 15)) >>= fun r25 =>
 pure (LS.next (IntKind.wrap .i64 (s3 + 1)))
theorem addr_PrintMac.K1_ok (a0 : (Vec Int 6)) (b2 : Nat) (s3 : Int) :
  SJ addr_PrintMac.cx [.code (c2 (c2 (c1 (c1 (c2 (c2 (c1 (c1 (c2 (c1 (c2 (c2 addr_PrintMac.B)))))))))))), .inBlock 1, .code (c2 (c2 (c2 (c1 (c1 (c2 (c1 (c2 (c2 addr_PrintMac.B))))))))), .inLoop (c1 (c1 (c2 (c1 (c2 (c2 addr_PrintMac.B)))))), .inBlock 0, .code (c2 (c2 (c2 addr_PrintMac.B)))] [(3, .pointer (some (pt b2 0))), (6, ((cI .u8).arr 6).val a0), (7, .int .i64 s3), (5, .int .u8 (Vec.g a0 s3 0))] [] (addr_PrintMac.K1 a0 b2 s3) (addr_PrintMac.F1 a0 b2) := by
 unfold addr_PrintMac.K1
 refine SJ.sr 4 <| OJ.go 2 [(15, .int .u8 (Int.fdiv (Vec.g a0 s3 0) (2 ^ 4))), (14, .int .u8 (Vec.g a0 s3 0))] <| OJ.idxT (d := 16) (T := 9) (y := .const (.string str12)) (j := .tmp 15) (k := .u8) (fun hb20 hb21 => ?_)
 refine OJ.call (d := 17) (g := 81) (ats := #[113, 5]) (args := [.tmp 3, .tmp 16]) (owed := []) F81 (strings_Builder_WriteByte_ok (some (pt b2 0)) (sb str12 (Int.fdiv (Vec.g a0 s3 0) (2 ^ 4)))) (fun r22 => ?_)
 refine OW.nil <| OJ.nil <| SJ.rg 4 <| OJ.go 2 [(19, .int .u8 (band .u8 (Vec.g a0 s3 0) 15)), (18, .int .u8 (Vec.g a0 s3 0))] <| OJ.idxT (d := 20) (T := 9) (y := .const (.string str12)) (j := .tmp 19) (k := .u8) (fun hb23 hb24 => ?_)
 refine OJ.call (d := 21) (g := 81) (ats := #[113, 5]) (args := [.tmp 3, .tmp 20]) (owed := []) F81 (strings_Builder_WriteByte_ok (some (pt b2 0)) (sb str12 (band .u8 (Vec.g a0 s3 0) 15))) (fun r25 => ?_)
 exact OW.nil <| OJ.nil <| SJ.inBlock <| SJ.rg 2 <| OJ.go 2 [(7, .int .i64 (IntKind.wrap .i64 (s3 + 1))), (22, .int .i64 (IntKind.wrap .i64 (s3 + 1)))] <| OJ.nil <| SJ.at_ [3, 6, 7] rfl
noncomputable def addr_PrintMac.L1 (a0 : (Vec Int 6)) (b2 : Nat) (s3 : Int) : M (LS Int ByteArray) :=
 if s3 < 6 then
  chk ((0 : Int) ≤ s3 ∧ s3 < (6 : Nat)) >>= fun _ =>
  if s3 > 0 then
   strings_Builder_WriteByte (some (pt b2 0)) 58 >>= fun r26 =>
   addr_PrintMac.K1 a0 b2 s3
  else
   addr_PrintMac.K1 a0 b2 s3
 else
  strings_Builder_String (some (pt b2 0)) >>= fun r28 =>
  pure (LS.done r28)
theorem addr_PrintMac.L1_ok (a0 : (Vec Int 6)) (b2 : Nat) (s3 : Int) :
  SJ addr_PrintMac.cx [.code (c1 (c1 (c2 (c1 (c2 (c2 addr_PrintMac.B)))))), .inLoop (c1 (c1 (c2 (c1 (c2 (c2 addr_PrintMac.B)))))), .inBlock 0, .code (c2 (c2 (c2 addr_PrintMac.B)))] [(3, .pointer (some (pt b2 0))), (6, ((cI .u8).arr 6).val a0), (7, .int .i64 s3)] [] (addr_PrintMac.L1 a0 b2 s3) (addr_PrintMac.F1 a0 b2) := by
 unfold addr_PrintMac.L1
 refine SJ.sr 1 <| OJ.go 1 [(8, .bool (decide (s3 < 6)))] <| OJ.nil <| SJ.seq <| SJ.cond (t := (.tmp 8)) (b := decide (s3 < 6)) decide_eq_true_iff (fun hc29 => ?_) (fun hc29 => ?_)
 ·refine SJ.skip <| SJ.seq <| SJ.block (id := 1) <| SJ.sr 4 <| OJ.go 1 [(9, .int .i64 s3)] <| OJ.idxV (d := 10) (T := 40) (E := 5) (y := .tmp 6) (j := .tmp 7) (k := .i64) (v0 := a0) Ty5 (fun hb17 hb18 => ?_)
  refine OJ.go 2 [(5, .int .u8 (Vec.g a0 s3 0)), (4, .int .i64 s3)] <| OJ.nil <| SJ.seq <| SJ.sr 2 <| OJ.go 2 [(12, .bool (decide (s3 > 0))), (11, .int .i64 s3)] <| OJ.nil <| SJ.cond (t := (.tmp 12)) (b := decide (s3 > 0)) decide_eq_true_iff (fun hc27 => ?_) (fun hc27 => ?_)
  ·refine SJ.rg 1 <| OJ.call (d := 13) (g := 81) (ats := #[113, 5]) (args := [.tmp 3, .const (.int .u8 58)]) (owed := []) F81 (strings_Builder_WriteByte_ok (some (pt b2 0)) 58) (fun r26 => ?_)
   refine OW.nil <| OJ.nil <| SJ.less [3, 6, 7, 5] (m' := [(3, .pointer (some (pt b2 0))), (6, ((cI .u8).arr 6).val a0), (7, .int .i64 s3), (5, .int .u8 (Vec.g a0 s3 0))]) ?_
   exact addr_PrintMac.K1_ok a0 b2 s3
  ·refine SJ.skip <| SJ.less [3, 6, 7, 5] (m' := [(3, .pointer (some (pt b2 0))), (6, ((cI .u8).arr 6).val a0), (7, .int .i64 s3), (5, .int .u8 (Vec.g a0 s3 0))]) ?_
   exact addr_PrintMac.K1_ok a0 b2 s3
 ·refine SJ.exit (id := 0) (by rfl) <| SJ.sr 2 <| OJ.call (d := 23) (g := 64) (ats := #[113]) (args := [.tmp 3]) (owed := []) F64 (strings_Builder_String_ok (some (pt b2 0))) (fun r28 => ?_)
  exact OW.nil <| OJ.go 1 [(2, .string r28)] <| OJ.nil <| SJ.r1 (.string r28) rfl rfl
noncomputable def addr_PrintMac (a0 : (Vec Int 6)) : M ByteArray :=
 slot 40 >>= fun b1 =>
 newv 113 c_strings_Builder z_strings_Builder >>= fun b2 =>
 loopM (fun s_ : Int => addr_PrintMac.L1 a0 b2 s_) 0
theorem addr_PrintMac_ok (a0 : (Vec Int 6)) : Ref Tryz.prog 44 [((cI .u8).arr 6).val a0] (addr_PrintMac a0) addr_PrintMac.out := by
 refine Ref.of (cd := addr_PrintMac.B) Tryz.func44 ?_
 show SJ addr_PrintMac.cx [.code addr_PrintMac.B] [(0, ((cI .u8).arr 6).val a0)] [] (addr_PrintMac a0) addr_PrintMac.F0
 unfold addr_PrintMac
 refine SJ.sr 2 <| OJ.slotOf (d := 1) (op := (.box 40 (.tmp 0))) (cd := ((cI .u8).arr 6)) (u := a0) (owed := []) (box_run (by kernel_rfl)) (fun b1 => ?_)
 refine OW.nil <| OJ.go 1 [(2, .string ByteArray.empty)] <| OJ.nil <| SJ.sr 1 <| OJ.newOf (d := 3) (op := (.alloc 113)) (cd := c_strings_Builder) (u := z_strings_Builder) (owed := []) (alloc_run Ty113) (fun b2 => ?_)
 refine OW.nil <| OJ.nil <| SJ.seq <| SJ.sr 2 <| OJ.kld (d := 6) (y := .tmp 1) (cd := ((cI .u8).arr 6)) (j := 0) (b := b1) (o := 0) a0 (pend2 := []) Ty40 rfl (At.whole _) rfl ?_
 refine OJ.go 1 [(7, .int .i64 0)] <| OJ.nil <| SJ.block (id := 0) <| SJ.forget (List.Sublist.cons _ List.Sublist.slnil) ?_
 exact SJ.loop (fun s_ : Int => [(3, .pointer (some (pt b2 0))), (6, ((cI .u8).arr 6).val a0), (7, .int .i64 s_)]) (fun s_ : Int => []) [3, 6, 7] rfl (fun _ _ => rfl) (fun s_ => addr_PrintMac.L1_ok a0 b2 s_)

/-! ### weir/weirref4.PrintMac: function 45 -/
noncomputable def r4_PrintMac.B : Code := (Tryz.f45.body).getD .skip
noncomputable def r4_PrintMac.cx : Fx := ⟨Tryz.prog, 45, Tryz.f45⟩
noncomputable def r4_PrintMac.out (r_ : ByteArray) : Value := .string r_
noncomputable def r4_PrintMac.F0 (r_ : ByteArray) : Reach := .ret (r4_PrintMac.out r_)
noncomputable def r4_PrintMac.F1 (a0 : (Vec Int 6)) (b1 : Nat) : (LS (ByteArray × Int) ByteArray) → Reach := loopF [.inLoop (c1 (c1 (c2 (c1 (c2 (c2 r4_PrintMac.B)))))), .inBlock 0, .code (c2 (c2 (c2 r4_PrintMac.B)))] (fun s_ : (ByteArray × Int) => [(1, .pointer (some (pt b1 0))), (3, .string s_.1), (4, .int .i64 s_.2)]) (fun s_ : (ByteArray × Int) => [(b1, ((cI .u8).arr 6).enc a0)]) r4_PrintMac.F0
noncomputable def r4_PrintMac.K1 (a0 : (Vec Int 6)) (s3 : Int) (j17 : ByteArray) : M (LS (ByteArray × Int) ByteArray) :=
 draw >>= fun _ =>
 chk ((0 : Int) ≤ s3 ∧ s3 < (6 : Nat)) >>= fun _ =>
 chk ((0 : Int) ≤ (IntKind.wrap .u8 (Int.tdiv (Vec.g a0 s3 0) 16)) ∧ (IntKind.wrap .u8 (Int.tdiv (Vec.g a0 s3 0) 16)) < (str12.size : Int)) >>= fun _ =>
 chk ((0 : Int) ≤ s3 ∧ s3 < (6 : Nat)) >>= fun _ =>
 chk ((0 : Int) ≤ (Int.tmod (Vec.g a0 s3 0) 16) ∧ (Int.tmod (Vec.g a0 s3 0) 16) < (str12.size : Int)) >>= fun _ =>
 newv 5 ((cI .u8).arr 2) (⟨[(sb str12 (IntKind.wrap .u8 (Int.tdiv (Vec.g a0 s3 0) 16))), (sb str12 (Int.tmod (Vec.g a0 s3 0) 16))], rfl⟩ : Vec Int 2) >>= fun b26 =>
 toStr (⟨some (pt b26 0), 2, 2⟩ : Sl) >>= fun r27 =>
 chk (((j17.size + r27.size : Nat) : Int) ≤ 9223372036854775807) >>= fun _ =>
 pure (LS.next ((j17 ++ r27), IntKind.wrap .i64 (s3 + 1)))
theorem r4_PrintMac.K1_ok (a0 : (Vec Int 6)) (b1 : Nat) (s3 : Int) (j17 : ByteArray) :
  SJ r4_PrintMac.cx [.code (c2 (c1 (c1 (c2 (c1 (c1 (c2 (c1 (c2 (c2 r4_PrintMac.B)))))))))), .inBlock 1, .code (c2 (c2 (c1 (c1 (c2 (c1 (c2 (c2 r4_PrintMac.B)))))))), .inLoop (c1 (c1 (c2 (c1 (c2 (c2 r4_PrintMac.B)))))), .inBlock 0, .code (c2 (c2 (c2 r4_PrintMac.B)))] [(1, .pointer (some (pt b1 0))), (3, .string j17), (4, .int .i64 s3)] [(b1, ((cI .u8).arr 6).enc a0)] (r4_PrintMac.K1 a0 s3 j17) (r4_PrintMac.F1 a0 b1) := by
 unfold r4_PrintMac.K1
 refine SJ.draw (id := 7) (kd := [0, 0, 0, 1, 0, 0, 0, 0, 1, 0, 0, 2, 2, 0, 0]) (bef := [0, 0, 2, 6, 14, 30, 0, 64, 192, 448, 960, 2046, 4094, 8191, 16383]) (ord := [0, 1, 2, 3, 4, 5, 6, 7, 8, 9, 10, 11, 12, 13, 14]) mixed ?_
 refine OJ.go 2 [(14, .int .i64 s3), (13, .string j17)] <| OJ.idxK (d := 15) (T := 40) (y := .tmp 1) (j := .tmp 14) (E := 5) (sz := 1) (b := b1) (o := 0) (k := .i64) (fun hb18 hb19 => ?_)
 refine OJ.kld (d := 16) (y := .tmp 15) (cd := (cI .u8)) (j := 0) (b := b1) (o := (0 + s3.toNat * 1)) (Vec.g a0 s3 0) (pend2 := [⟨3, 5, (pt b1 (0 + s3.toNat * 1)), (cI .u8).val (Vec.g a0 s3 0)⟩]) Ty5 rfl (At.zero (At.arr (z := 0) hb18 hb19)) rfl ?_
 refine OJ.go 1 [(17, .int .u8 (IntKind.wrap .u8 (Int.tdiv (Vec.g a0 s3 0) 16)))] <| OJ.idxT (d := 18) (T := 9) (y := .const (.string str12)) (j := .tmp 17) (k := .u8) (fun hb20 hb21 => ?_)
 refine OJ.go 1 [(19, .int .i64 s3)] <| OJ.idxK (d := 20) (T := 40) (y := .tmp 1) (j := .tmp 19) (E := 5) (sz := 1) (b := b1) (o := 0) (k := .i64) (fun hb22 hb23 => ?_)
 refine OJ.kld (d := 21) (y := .tmp 20) (cd := (cI .u8)) (j := 0) (b := b1) (o := (0 + s3.toNat * 1)) (Vec.g a0 s3 0) (pend2 := [⟨8, 5, (pt b1 (0 + s3.toNat * 1)), (cI .u8).val (Vec.g a0 s3 0)⟩, ⟨3, 5, (pt b1 (0 + s3.toNat * 1)), (cI .u8).val (Vec.g a0 s3 0)⟩]) Ty5 rfl (At.zero (At.arr (z := 0) hb22 hb23)) rfl ?_
 refine OJ.go 1 [(22, .int .u8 (Int.tmod (Vec.g a0 s3 0) 16))] <| OJ.idxT (d := 23) (T := 9) (y := .const (.string str12)) (j := .tmp 22) (k := .u8) (fun hb24 hb25 => ?_)
 refine OJ.rowNew (d := 24) (t := 51) (parts := [(0, .tmp 18), (1, .tmp 23)]) (ps := [(0, (cI .u8).val (sb str12 (IntKind.wrap .u8 (Int.tdiv (Vec.g a0 s3 0) 16)))), (1, (cI .u8).val (sb str12 (Int.tmod (Vec.g a0 s3 0) 16)))]) (cd := (cI .u8)) (owed := []) Ty5 (Filled.cons (cd := (cI .u8)) (q := (sb str12 (IntKind.wrap .u8 (Int.tdiv (Vec.g a0 s3 0) 16)))) (o := 0) rfl (Upd.arr (i := 0) (by decide) (by decide)) (Filled.cons (cd := (cI .u8)) (q := (sb str12 (Int.tmod (Vec.g a0 s3 0) 16))) (o := 1) rfl (Upd.arr (i := 1) (by decide) (by decide)) Filled.nil)) (fun b26 => ?_)
 refine OW.nil <| OJ.toStr (d := 25) (t := 51) (u := 9) (E := 5) (x := .tmp 24) (owed := []) (fun r27 => ?_)
 refine OW.nil <| OJ.cat (d := 26) (T := 9) (yT := 9) (y := .tmp 13) (z := .tmp 25) (p := j17) (q := r27) ?_
 exact OJ.go 1 [(3, .string (j17 ++ r27))] <| OJ.nil <| SJ.inBlock <| SJ.rg 3 <| OJ.go 3 [(4, .int .i64 (IntKind.wrap .i64 (s3 + 1))), (8, .int .i64 (IntKind.wrap .i64 (s3 + 1))), (7, .int .i64 s3)] <| OJ.nil <| SJ.at_ [1, 3, 4] rfl
noncomputable def r4_PrintMac.L1 (a0 : (Vec Int 6)) (s2 : ByteArray) (s3 : Int) : M (LS (ByteArray × Int) ByteArray) :=
 if s3 < 6 then
  if s3 > 0 then
   chk (((s2.size + str1.size : Nat) : Int) ≤ 9223372036854775807) >>= fun _ =>
   r4_PrintMac.K1 a0 s3 (s2 ++ str1)
  else
   r4_PrintMac.K1 a0 s3 s2
 else
  pure (LS.done s2)
theorem r4_PrintMac.L1_ok (a0 : (Vec Int 6)) (b1 : Nat) (s2 : ByteArray) (s3 : Int) :
  SJ r4_PrintMac.cx [.code (c1 (c1 (c2 (c1 (c2 (c2 r4_PrintMac.B)))))), .inLoop (c1 (c1 (c2 (c1 (c2 (c2 r4_PrintMac.B)))))), .inBlock 0, .code (c2 (c2 (c2 r4_PrintMac.B)))] [(1, .pointer (some (pt b1 0))), (3, .string s2), (4, .int .i64 s3)] [(b1, ((cI .u8).arr 6).enc a0)] (r4_PrintMac.L1 a0 s2 s3) (r4_PrintMac.F1 a0 b1) := by
 unfold r4_PrintMac.L1
 refine SJ.seq <| SJ.sr 2 <| OJ.go 2 [(6, .bool (decide (s3 < 6))), (5, .int .i64 s3)] <| OJ.nil <| SJ.cond (t := (.tmp 6)) (b := decide (s3 < 6)) decide_eq_true_iff (fun hc29 => ?_) (fun hc29 => ?_)
 ·refine SJ.skip <| SJ.seq <| SJ.block (id := 1) <| SJ.seq <| SJ.sr 2 <| OJ.go 2 [(10, .bool (decide (s3 > 0))), (9, .int .i64 s3)] <| OJ.nil <| SJ.cond (t := (.tmp 10)) (b := decide (s3 > 0)) decide_eq_true_iff (fun hc28 => ?_) (fun hc28 => ?_)
  ·refine SJ.rg 3 <| OJ.go 1 [(11, .string s2)] <| OJ.cat (d := 12) (T := 9) (yT := 9) (y := .tmp 11) (z := .const (.string str1)) (p := s2) (q := str1) ?_
   refine OJ.go 1 [(3, .string (s2 ++ str1))] <| OJ.nil <| SJ.less [1, 3, 4] (m' := [(1, .pointer (some (pt b1 0))), (3, .string (s2 ++ str1)), (4, .int .i64 s3)]) ?_
   exact r4_PrintMac.K1_ok a0 b1 s3 (s2 ++ str1)
  ·refine SJ.skip <| SJ.less [1, 3, 4] (m' := [(1, .pointer (some (pt b1 0))), (3, .string s2), (4, .int .i64 s3)]) ?_
   exact r4_PrintMac.K1_ok a0 b1 s3 s2
 ·exact SJ.exit (id := 0) (by rfl) <| SJ.sr 2 <| OJ.go 2 [(2, .string s2), (27, .string s2)] <| OJ.nil <| SJ.r1 (.string s2) rfl rfl
noncomputable def r4_PrintMac (a0 : (Vec Int 6)) : M ByteArray :=
 slot 40 >>= fun b1 =>
 loopM (fun s_ : (ByteArray × Int) => r4_PrintMac.L1 a0 s_.1 s_.2) (ByteArray.empty, 0)
theorem r4_PrintMac_ok (a0 : (Vec Int 6)) : Ref Tryz.prog 45 [((cI .u8).arr 6).val a0] (r4_PrintMac a0) r4_PrintMac.out := by
 refine Ref.of (cd := r4_PrintMac.B) Tryz.func45 ?_
 show SJ r4_PrintMac.cx [.code r4_PrintMac.B] [(0, ((cI .u8).arr 6).val a0)] [] (r4_PrintMac a0) r4_PrintMac.F0
 unfold r4_PrintMac
 refine SJ.sr 2 <| OJ.slotOf (d := 1) (op := (.box 40 (.tmp 0))) (cd := ((cI .u8).arr 6)) (u := a0) (owed := []) (box_run (by kernel_rfl)) (fun b1 => ?_)
 exact OW.nil <| OJ.go 1 [(2, .string ByteArray.empty)] <| OJ.nil <| SJ.sr 1 <| OJ.go 1 [(3, .string ByteArray.empty)] <| OJ.nil <| SJ.seq <| SJ.sr 1 <| OJ.go 1 [(4, .int .i64 0)] <| OJ.nil <| SJ.block (id := 0) <| SJ.loop (fun s_ : (ByteArray × Int) => [(1, .pointer (some (pt b1 0))), (3, .string s_.1), (4, .int .i64 s_.2)]) (fun s_ : (ByteArray × Int) => [(b1, ((cI .u8).arr 6).enc a0)]) [1, 3, 4] rfl (fun _ _ => rfl) (fun s_ => r4_PrintMac.L1_ok a0 b1 s_.1 s_.2)

/-! ### weir/weirlaw4.printed: function 22 -/
noncomputable def l4_printed.B : Code := (Tryz.f22.body).getD .skip
noncomputable def l4_printed.cx : Fx := ⟨Tryz.prog, 22, Tryz.f22⟩
noncomputable def l4_printed.out (r_ : Bool) : Value := .bool r_
noncomputable def l4_printed.F0 (r_ : Bool) : Reach := .ret (l4_printed.out r_)
noncomputable def l4_printed (a0 : l4_Op) : M Bool :=
 slot 42 >>= fun b1 =>
 if a0.Kind = 4 then
  addr_PrintIP a0.A >>= fun r15 =>
  r4_PrintIP a0.A >>= fun r16 =>
  (if r15.1.toList = r16.1.toList then
    l4_num r15.2 >>= fun r17 =>
    pure (r17 == r16.2)
   else
    pure false) >>= fun y18 =>
  pure y18
 else
  if a0.Kind = 5 then
   addr_PrintPrefix a0.P >>= fun r23 =>
   r4_PrintPrefix a0.P >>= fun r24 =>
   (if r23.1.toList = r24.1.toList then
     l4_num r23.2 >>= fun r25 =>
     pure (r25 == r24.2)
    else
     pure false) >>= fun y26 =>
   pure y26
  else
   addr_PrintMac a0.M >>= fun r27 =>
   r4_PrintMac a0.M >>= fun r28 =>
   pure (r27.toList == r28.toList)
theorem l4_printed_ok (a0 : l4_Op) : Ref Tryz.prog 22 [c_weirlaw4_Op.val a0] (l4_printed a0) l4_printed.out := by
 refine Ref.of (cd := l4_printed.B) Tryz.func22 ?_
 show SJ l4_printed.cx [.code l4_printed.B] [(0, c_weirlaw4_Op.val a0)] [] (l4_printed a0) l4_printed.F0
 unfold l4_printed
 refine SJ.sr 2 <| OJ.slotOf (d := 1) (op := (.box 42 (.tmp 0))) (cd := c_weirlaw4_Op) (u := a0) (owed := []) (box_run (by kernel_rfl)) (fun b1 => ?_)
 refine OW.nil <| OJ.go 1 [(2, .bool false)] <| OJ.nil <| SJ.seq <| SJ.sr 2 <| OJ.go 1 [(13, .pointer (some (pt b1 0)))] <| OJ.kld (d := 14) (y := .tmp 13) (cd := (cI .i64)) (j := 0) (b := b1) (o := 0) a0.Kind (pend2 := []) Ty3 rfl (At_weirlaw4_Op_Kind a0) rfl ?_
 refine OJ.nil <| SJ.block (id := 0) <| SJ.sr 2 <| OJ.go 2 [(15, .bool (a0.Kind == 4)), (16, .bool (a0.Kind == 4))] <| OJ.nil <| SJ.cond (t := (.tmp 15)) (b := (a0.Kind == 4)) beq_iff_eq (fun hc30 => ?_) (fun hc30 => ?_)
 ·refine SJ.sr 8 <| OJ.go 1 [(18, .pointer (some (pt b1 2)))] <| OJ.kld (d := 19) (y := .tmp 18) (cd := c_api_IP) (j := 0) (b := b1) (o := 2) a0.A (pend2 := []) Ty28 rfl (At_weirlaw4_Op_A a0) rfl ?_
  refine OJ.call (d := 20) (g := 10) (ats := #[28]) (args := [.tmp 19]) (owed := []) F10 (addr_PrintIP_ok a0.A) (fun r15 => ?_)
  refine OW.nil <| OJ.go 5 [(4, .int .i64 r15.2), (3, .string r15.1), (22, .int .i64 r15.2), (21, .string r15.1), (17, .tuple #[.string r15.1, .int .i64 r15.2])] <| OJ.nil <| SJ.sr 8 <| OJ.go 1 [(24, .pointer (some (pt b1 2)))] <| OJ.kld (d := 25) (y := .tmp 24) (cd := c_api_IP) (j := 0) (b := b1) (o := 2) a0.A (pend2 := []) Ty28 rfl (At_weirlaw4_Op_A a0) rfl ?_
  refine OJ.call (d := 26) (g := 41) (ats := #[28]) (args := [.tmp 25]) (owed := []) F41 (r4_PrintIP_ok a0.A) (fun r16 => ?_)
  refine OW.nil <| OJ.go 5 [(6, .int .i64 r16.2), (5, .string r16.1), (28, .int .i64 r16.2), (27, .string r16.1), (23, .tuple #[.string r16.1, .int .i64 r16.2])] <| OJ.nil <| SJ.sr 10 <| OJ.go 4 [(32, .bool (r15.1.toList == r16.1.toList)), (31, .bool (r15.1.toList == r16.1.toList)), (30, .string r16.1), (29, .string r15.1)] <| OJ.join (b := (r15.1.toList == r16.1.toList)) [4, 5, 6, 7, 8] [9] [37] (fun y18 => [(37, .bool y18)]) [] [] (t := 32) beq_iff_eq (fun hp_ => ?_) (fun hp_ => ?_) (fun _ _ _ _ _ _ h_ => h_) (fun y18 => ?_)
  ·refine OJ.go 1 [(33, .int .i64 r15.2)] <| OJ.call (d := 34) (g := 13) (ats := #[29]) (args := [.tmp 33]) (owed := []) F13 (l4_num_ok r15.2) (fun r17 => ?_)
   exact OW.nil <| OJ.go 3 [(37, .bool (r17 == r16.2)), (36, .bool (r17 == r16.2)), (35, .int .i64 r16.2)] <| OJ.x0
  ·exact OJ.go 5 [(37, .bool false), (36, undef), (35, undef), (34, undef), (33, undef)] <| OJ.x0
  ·exact OJ.go 1 [(2, .bool y18)] <| OJ.nil <| SJ.r1 (.bool y18) rfl rfl
 ·refine SJ.sr 2 <| OJ.go 2 [(38, .bool (a0.Kind == 5)), (39, .bool (a0.Kind == 5))] <| OJ.nil <| SJ.cond (t := (.tmp 38)) (b := (a0.Kind == 5)) beq_iff_eq (fun hc29 => ?_) (fun hc29 => ?_)
  ·refine SJ.sr 8 <| OJ.go 1 [(41, .pointer (some (pt b1 36)))] <| OJ.kld (d := 42) (y := .tmp 41) (cd := c_api_Prefix) (j := 0) (b := b1) (o := 36) a0.P (pend2 := []) Ty38 rfl (At_weirlaw4_Op_P a0) rfl ?_
   refine OJ.call (d := 43) (g := 42) (ats := #[38]) (args := [.tmp 42]) (owed := []) F42 (addr_PrintPrefix_ok a0.P) (fun r23 => ?_)
   refine OW.nil <| OJ.go 5 [(8, .int .i64 r23.2), (7, .string r23.1), (45, .int .i64 r23.2), (44, .string r23.1), (40, .tuple #[.string r23.1, .int .i64 r23.2])] <| OJ.nil <| SJ.sr 8 <| OJ.go 1 [(47, .pointer (some (pt b1 36)))] <| OJ.kld (d := 48) (y := .tmp 47) (cd := c_api_Prefix) (j := 0) (b := b1) (o := 36) a0.P (pend2 := []) Ty38 rfl (At_weirlaw4_Op_P a0) rfl ?_
   refine OJ.call (d := 49) (g := 43) (ats := #[38]) (args := [.tmp 48]) (owed := []) F43 (r4_PrintPrefix_ok a0.P) (fun r24 => ?_)
   refine OW.nil <| OJ.go 5 [(10, .int .i64 r24.2), (9, .string r24.1), (51, .int .i64 r24.2), (50, .string r24.1), (46, .tuple #[.string r24.1, .int .i64 r24.2])] <| OJ.nil <| SJ.sr 10 <| OJ.go 4 [(55, .bool (r23.1.toList == r24.1.toList)), (54, .bool (r23.1.toList == r24.1.toList)), (53, .string r24.1), (52, .string r23.1)] <| OJ.join (b := (r23.1.toList == r24.1.toList)) [4, 5, 6, 7, 8] [9] [60] (fun y26 => [(60, .bool y26)]) [] [] (t := 55) beq_iff_eq (fun hp_ => ?_) (fun hp_ => ?_) (fun _ _ _ _ _ _ h_ => h_) (fun y26 => ?_)
   ·refine OJ.go 1 [(56, .int .i64 r23.2)] <| OJ.call (d := 57) (g := 13) (ats := #[29]) (args := [.tmp 56]) (owed := []) F13 (l4_num_ok r23.2) (fun r25 => ?_)
    exact OW.nil <| OJ.go 3 [(60, .bool (r25 == r24.2)), (59, .bool (r25 == r24.2)), (58, .int .i64 r24.2)] <| OJ.x0
   ·exact OJ.go 5 [(60, .bool false), (59, undef), (58, undef), (57, undef), (56, undef)] <| OJ.x0
   ·exact OJ.go 1 [(2, .bool y26)] <| OJ.nil <| SJ.r1 (.bool y26) rfl rfl
  ·refine SJ.skip <| SJ.inBlock <| SJ.sr 4 <| OJ.go 1 [(61, .pointer (some (pt b1 54)))] <| OJ.kld (d := 62) (y := .tmp 61) (cd := ((cI .u8).arr 6)) (j := 0) (b := b1) (o := 54) a0.M (pend2 := []) Ty40 rfl (At_weirlaw4_Op_M a0) rfl ?_
   refine OJ.call (d := 63) (g := 44) (ats := #[40]) (args := [.tmp 62]) (owed := []) F44 (addr_PrintMac_ok a0.M) (fun r27 => ?_)
   refine OW.nil <| OJ.go 1 [(11, .string r27)] <| OJ.nil <| SJ.sr 4 <| OJ.go 1 [(64, .pointer (some (pt b1 54)))] <| OJ.kld (d := 65) (y := .tmp 64) (cd := ((cI .u8).arr 6)) (j := 0) (b := b1) (o := 54) a0.M (pend2 := []) Ty40 rfl (At_weirlaw4_Op_M a0) rfl ?_
   refine OJ.call (d := 66) (g := 45) (ats := #[40]) (args := [.tmp 65]) (owed := []) F45 (r4_PrintMac_ok a0.M) (fun r28 => ?_)
   exact OW.nil <| OJ.go 1 [(12, .string r28)] <| OJ.nil <| SJ.sr 4 <| OJ.go 4 [(2, .bool (r27.toList == r28.toList)), (69, .bool (r27.toList == r28.toList)), (68, .string r28), (67, .string r27)] <| OJ.nil <| SJ.r1 (.bool (r27.toList == r28.toList)) rfl rfl

/-! ### weir/addr.Mask: function 49 -/
noncomputable def addr_Mask.B : Code := (Tryz.f49.body).getD .skip
noncomputable def addr_Mask.cx : Fx := ⟨Tryz.prog, 49, Tryz.f49⟩
noncomputable def addr_Mask.out (r_ : (api_IP × Int)) : Value := .tuple #[c_api_IP.val r_.1, .int .i64 r_.2]
noncomputable def addr_Mask.F0 (r_ : (api_IP × Int)) : Reach := .ret (addr_Mask.out r_)
noncomputable def addr_Mask (a0 : api_IP) (a1 : Int) : M (api_IP × Int) :=
 slot 28 >>= fun b1 =>
 slot 28 >>= fun b2 =>
 addr_size a0 >>= fun r3 =>
 if r3 = 0 then
  pure (z_api_IP, 40)
 else
  (if a1 < 0 then
    pure true
   else
    pure (decide (a1 > r3))) >>= fun y6 =>
  if y6 = true then
   pure (z_api_IP, 45)
  else
   draw >>= fun _ =>
   addr_masked a0.A a1 >>= fun r7 =>
   pure ((⟨a0.V, r7⟩ : api_IP), 0)
theorem addr_Mask_ok (a0 : api_IP) (a1 : Int) : Ref Tryz.prog 49 [c_api_IP.val a0, .int .i64 a1] (addr_Mask a0 a1) addr_Mask.out := by
 refine Ref.of (cd := addr_Mask.B) Tryz.func49 ?_
 show SJ addr_Mask.cx [.code addr_Mask.B] [(0, c_api_IP.val a0), (1, .int .i64 a1)] [] (addr_Mask a0 a1) addr_Mask.F0
 unfold addr_Mask
 refine SJ.sr 3 <| OJ.slotOf (d := 2) (op := (.box 28 (.tmp 0))) (cd := c_api_IP) (u := a0) (owed := []) (box_run (by kernel_rfl)) (fun b1 => ?_)
 refine OW.nil <| OJ.slotOf (d := 4) (op := (.alloc 28)) (cd := c_api_IP) (u := z_api_IP) (owed := []) (alloc_run Ty28) (fun b2 => ?_)
 refine OW.nil <| OJ.go 1 [(5, .int .i64 0)] <| OJ.nil <| SJ.seq <| SJ.sr 3 <| OJ.kld (d := 7) (y := .tmp 2) (cd := c_api_IP) (j := 1) (b := b1) (o := 0) a0 (pend2 := []) Ty28 rfl (At.whole _) rfl ?_
 refine OJ.call (d := 8) (g := 32) (ats := #[28]) (args := [.tmp 7]) (owed := []) F32 (addr_size_ok a0) (fun r3 => ?_)
 refine OW.nil <| OJ.go 1 [(6, .int .i64 r3)] <| OJ.nil <| SJ.block (id := 0) <| SJ.sr 3 <| OJ.go 3 [(9, .bool (r3 == 0)), (11, .bool (r3 == 0)), (10, .int .i64 r3)] <| OJ.nil <| SJ.cond (t := (.tmp 9)) (b := (r3 == 0)) beq_iff_eq (fun hc9 => ?_) (fun hc9 => ?_)
 ·refine SJ.sr 3 <| OJ.build (d := 12) (T := 28) (parts := []) (ps := []) (cd := c_api_IP) (z0 := z_api_IP) z_api_IP Ty28 rfl Filled.nil ?_
  refine OJ.kst (y := .tmp 4) (z := .tmp 12) (cd := c_api_IP) (u := z_api_IP) (j := 0) (b := b2) (o := 0) (c_api_IP.enc z_api_IP) (owed := []) Ty28 rfl (Upd.whole ((Cod.len _ _).trans (Cod.len _ _).symm)) rfl ?_
  exact OW.nil <| OJ.go 1 [(5, .int .i64 40)] <| OJ.nil <| SJ.ret rfl (Res.run (ys := [c_api_IP.val z_api_IP, .int .i64 40]) (.cell (j := 0) (b := b2) (cd := c_api_IP) (q := z_api_IP) (by kernel_rfl) rfl Ty28 (At.whole _) (.tmp (by kernel_rfl) .nil)) rfl)
 ·refine SJ.sr 8 <| OJ.go 3 [(16, .bool (decide (a1 < 0))), (15, .bool (decide (a1 < 0))), (14, .int .i64 a1)] <| OJ.join (b := decide (a1 < 0)) [3, 4, 5, 6] [7] [1, 2, 4, 20] (fun y6 => [(1, .int .i64 a1), (2, .pointer (some (pt b1 0))), (4, .pointer (some (pt b2 0))), (20, .bool y6)]) [] [] (t := 16) decide_eq_true_iff (fun hp_ => ?_) (fun hp_ => ?_) (fun _ _ _ _ _ _ h_ => h_) (fun y6 => ?_)
  ·exact OJ.go 4 [(20, .bool true), (19, undef), (18, undef), (17, undef)] <| OJ.x0
  ·exact OJ.go 4 [(20, .bool (decide (a1 > r3))), (19, .bool (decide (a1 > r3))), (18, .int .i64 r3), (17, .int .i64 a1)] <| OJ.x0
  ·refine OJ.go 1 [(13, .bool y6)] <| OJ.nil <| SJ.cond (t := (.tmp 13)) (b := y6) Iff.rfl (fun hc8 => ?_) (fun hc8 => ?_)
   ·refine SJ.sr 3 <| OJ.build (d := 21) (T := 28) (parts := []) (ps := []) (cd := c_api_IP) (z0 := z_api_IP) z_api_IP Ty28 rfl Filled.nil ?_
    refine OJ.kst (y := .tmp 4) (z := .tmp 21) (cd := c_api_IP) (u := z_api_IP) (j := 0) (b := b2) (o := 0) (c_api_IP.enc z_api_IP) (owed := []) Ty28 rfl (Upd.whole ((Cod.len _ _).trans (Cod.len _ _).symm)) rfl ?_
    exact OW.nil <| OJ.go 1 [(5, .int .i64 45)] <| OJ.nil <| SJ.ret rfl (Res.run (ys := [c_api_IP.val z_api_IP, .int .i64 45]) (.cell (j := 0) (b := b2) (cd := c_api_IP) (q := z_api_IP) (by kernel_rfl) rfl Ty28 (At.whole _) (.tmp (by kernel_rfl) .nil)) rfl)
   ·refine SJ.skip <| SJ.inBlock <| SJ.seq <| SJ.draw (id := 6) (kd := [0, 1, 0, 1, 0, 2, 0, 2, 0]) (bef := [0, 1, 0, 4, 0, 28, 63, 127, 255]) (ord := [0, 1, 2, 3, 4, 5, 6, 7, 8]) mixed ?_
    refine OJ.go 1 [(22, .pointer (some (pt b1 0)))] <| OJ.kld (d := 23) (y := .tmp 22) (cd := (cI .i64)) (j := 1) (b := b1) (o := 0) a0.V (pend2 := [⟨1, 3, (pt b1 0), (cI .i64).val a0.V⟩]) Ty3 rfl (At_api_IP_V a0) rfl ?_
    refine OJ.go 1 [(24, .pointer (some (pt b1 1)))] <| OJ.kld (d := 25) (y := .tmp 24) (cd := ((cI .u8).arr 16)) (j := 1) (b := b1) (o := 1) a0.A (pend2 := [⟨3, 26, (pt b1 1), ((cI .u8).arr 16).val a0.A⟩, ⟨1, 3, (pt b1 0), (cI .i64).val a0.V⟩]) Ty26 rfl (At_api_IP_A a0) rfl ?_
    refine OJ.go 1 [(26, .int .i64 a1)] <| OJ.call (d := 27) (g := 20) (ats := #[26, 3]) (args := [.tmp 25, .tmp 26]) (owed := [⟨1, 3, (pt b1 0), (cI .i64).val a0.V⟩]) F20 (addr_masked_ok a0.A a1) (fun r7 => ?_)
    refine OW.known (j := 1) (q := a0.V) Ty3 rfl (At_api_IP_V a0) ?_
    refine OW.nil <| OJ.build (d := 28) (T := 28) (parts := [(0, .tmp 23), (1, .tmp 27)]) (ps := [(0, (cI .i64).val a0.V), (1, ((cI .u8).arr 16).val r7)]) (cd := c_api_IP) (z0 := z_api_IP) (⟨a0.V, r7⟩ : api_IP) Ty28 rfl (Filled.cons (cd := (cI .i64)) (q := a0.V) (o := 0) (by kernel_rfl) (Up_api_IP_V z_api_IP a0.V) (Filled.cons (cd := ((cI .u8).arr 16)) (q := r7) (o := 1) (by kernel_rfl) (Up_api_IP_A (⟨a0.V, z_api_IP.A⟩ : api_IP) r7) Filled.nil)) ?_
    refine OJ.kst (y := .tmp 4) (z := .tmp 28) (cd := c_api_IP) (u := (⟨a0.V, r7⟩ : api_IP)) (j := 0) (b := b2) (o := 0) (c_api_IP.enc (⟨a0.V, r7⟩ : api_IP)) (owed := []) Ty28 rfl (Upd.whole ((Cod.len _ _).trans (Cod.len _ _).symm)) rfl ?_
    exact OW.nil <| OJ.go 1 [(5, .int .i64 0)] <| OJ.nil <| SJ.ret rfl (Res.run (ys := [c_api_IP.val (⟨a0.V, r7⟩ : api_IP), .int .i64 0]) (.cell (j := 0) (b := b2) (cd := c_api_IP) (q := (⟨a0.V, r7⟩ : api_IP)) (by kernel_rfl) rfl Ty28 (At.whole _) (.tmp (by kernel_rfl) .nil)) rfl)

/-! ### weir/weirref4.Mask: function 50 -/
noncomputable def r4_Mask.B : Code := (Tryz.f50.body).getD .skip
noncomputable def r4_Mask.cx : Fx := ⟨Tryz.prog, 50, Tryz.f50⟩
noncomputable def r4_Mask.out (r_ : (api_IP × Int)) : Value := .tuple #[c_api_IP.val r_.1, .int .i64 r_.2]
noncomputable def r4_Mask.F0 (r_ : (api_IP × Int)) : Reach := .ret (r4_Mask.out r_)
noncomputable def r4_Mask.F1 (a0 : api_IP) (a1 : Int) (b1 : Nat) (b2 : Nat) (b6 : Nat) : (LS (Int × api_IP) (api_IP × Int)) → Reach := loopF [.inLoop (c1 (c1 (c2 (c1 (c2 (c2 (c2 (c2 (c2 r4_Mask.B))))))))), .inBlock 0, .code (c2 (c2 (c2 (c2 (c2 (c2 r4_Mask.B))))))] (fun s_ : (Int × api_IP) => [(1, .int .i64 a1), (2, .pointer (some (pt b1 0))), (4, .pointer (some (pt b2 0))), (7, .pointer (some (pt b6 0))), (8, .int .i64 s_.1)]) (fun s_ : (Int × api_IP) => [(b6, c_api_IP.enc s_.2), (b2, c_api_IP.enc z_api_IP), (b1, c_api_IP.enc a0)]) r4_Mask.F0
noncomputable def r4_Mask.K1 (s7 : Int) (s8 : api_IP) (s22 : Int) : M (LS (Int × api_IP) (api_IP × Int)) :=
 chk ((0 : Int) ≤ s7 ∧ s7 < (16 : Nat)) >>= fun _ =>
 pure (LS.next (IntKind.wrap .i64 (s7 + 1), (⟨s8.V, (Vec.s s8.A s7 (IntKind.wrap .u8 s22))⟩ : api_IP)))
theorem r4_Mask.K1_ok (a0 : api_IP) (a1 : Int) (b1 : Nat) (b2 : Nat) (b6 : Nat) (s7 : Int) (s8 : api_IP) (s22 : Int) :
  SJ r4_Mask.cx [.code (c2 (c2 (c1 (c1 (c2 (c1 (c1 (c2 (c1 (c2 (c2 (c2 (c2 (c2 r4_Mask.B)))))))))))))), .inBlock 1, .code (c2 (c2 (c1 (c1 (c2 (c1 (c2 (c2 (c2 (c2 (c2 r4_Mask.B))))))))))), .inLoop (c1 (c1 (c2 (c1 (c2 (c2 (c2 (c2 (c2 r4_Mask.B))))))))), .inBlock 0, .code (c2 (c2 (c2 (c2 (c2 (c2 r4_Mask.B))))))] [(1, .int .i64 a1), (2, .pointer (some (pt b1 0))), (4, .pointer (some (pt b2 0))), (7, .pointer (some (pt b6 0))), (8, .int .i64 s7), (9, .int .i64 s22)] [(b6, c_api_IP.enc s8), (b2, c_api_IP.enc z_api_IP), (b1, c_api_IP.enc a0)] (r4_Mask.K1 s7 s8 s22) (r4_Mask.F1 a0 a1 b1 b2 b6) := by
 unfold r4_Mask.K1
 refine SJ.rg 6 <| OJ.go 4 [(54, .pointer (some (pt b6 1))), (53, .int .u8 (IntKind.wrap .u8 s22)), (52, .int .i64 s22), (51, .int .i64 s7)] <| OJ.idxK (d := 55) (T := 26) (y := .tmp 54) (j := .tmp 51) (E := 5) (sz := 1) (b := b6) (o := 1) (k := .i64) (fun hb28 hb29 => ?_)
 refine OJ.kst (y := .tmp 55) (z := .tmp 53) (cd := (cI .u8)) (u := (IntKind.wrap .u8 s22)) (j := 0) (b := b6) (o := (1 + s7.toNat * 1)) (c_api_IP.enc (⟨s8.V, (Vec.s s8.A s7 (IntKind.wrap .u8 s22))⟩ : api_IP)) (owed := []) Ty5 rfl (Upd.trans (At_api_IP_A s8) (Upd.arr hb28 hb29) (Up_api_IP_A s8 (Vec.s s8.A s7 (IntKind.wrap .u8 s22)))) rfl ?_
 exact OW.nil <| OJ.nil <| SJ.inBlock <| SJ.rg 3 <| OJ.go 3 [(8, .int .i64 (IntKind.wrap .i64 (s7 + 1))), (31, .int .i64 (IntKind.wrap .i64 (s7 + 1))), (30, .int .i64 s7)] <| OJ.nil <| SJ.at_ [1, 2, 4, 7, 8] rfl
noncomputable def r4_Mask.F2 (a0 : api_IP) (a1 : Int) (b1 : Nat) (b2 : Nat) (b6 : Nat) (s7 : Int) (s8 : api_IP) : (LS (Int × Int) (LS (Int × api_IP) (api_IP × Int))) → Reach := loopF [.inLoop (c1 (c1 (c2 (c1 (c2 (c1 (c1 (c2 (c1 (c1 (c2 (c1 (c2 (c2 (c2 (c2 (c2 r4_Mask.B))))))))))))))))), .inBlock 2, .code (c2 (c2 (c1 (c1 (c2 (c1 (c1 (c2 (c1 (c2 (c2 (c2 (c2 (c2 r4_Mask.B)))))))))))))), .inBlock 1, .code (c2 (c2 (c1 (c1 (c2 (c1 (c2 (c2 (c2 (c2 (c2 r4_Mask.B))))))))))), .inLoop (c1 (c1 (c2 (c1 (c2 (c2 (c2 (c2 (c2 r4_Mask.B))))))))), .inBlock 0, .code (c2 (c2 (c2 (c2 (c2 (c2 r4_Mask.B))))))] (fun s_ : (Int × Int) => [(1, .int .i64 a1), (2, .pointer (some (pt b1 0))), (4, .pointer (some (pt b2 0))), (7, .pointer (some (pt b6 0))), (8, .int .i64 s7), (9, .int .i64 s_.1), (10, .int .i64 s_.2)]) (fun s_ : (Int × Int) => [(b6, c_api_IP.enc s8), (b2, c_api_IP.enc z_api_IP), (b1, c_api_IP.enc a0)]) (r4_Mask.F1 a0 a1 b1 b2 b6)
noncomputable def r4_Mask.L2 (a0 : api_IP) (a1 : Int) (s7 : Int) (s8 : api_IP) (s22 : Int) (s23 : Int) : M (LS (Int × Int) (LS (Int × api_IP) (api_IP × Int))) :=
 if s23 < (IntKind.wrap .i64 ((IntKind.wrap .i64 (8 * s7)) + 8)) then
  if s23 < a1 then
   r4_bit a0 s23 >>= fun r31 =>
   pure (LS.next (IntKind.wrap .i64 ((IntKind.wrap .i64 (2 * s22)) + r31), IntKind.wrap .i64 (s23 + 1)))
  else
   pure (LS.next (IntKind.wrap .i64 (2 * s22), IntKind.wrap .i64 (s23 + 1)))
 else
  (r4_Mask.K1 s7 s8 s22) >>= fun b => pure (LS.done b)
theorem r4_Mask.L2_ok (a0 : api_IP) (a1 : Int) (b1 : Nat) (b2 : Nat) (b6 : Nat) (s7 : Int) (s8 : api_IP) (s22 : Int) (s23 : Int) :
  SJ r4_Mask.cx [.code (c1 (c1 (c2 (c1 (c2 (c1 (c1 (c2 (c1 (c1 (c2 (c1 (c2 (c2 (c2 (c2 (c2 r4_Mask.B))))))))))))))))), .inLoop (c1 (c1 (c2 (c1 (c2 (c1 (c1 (c2 (c1 (c1 (c2 (c1 (c2 (c2 (c2 (c2 (c2 r4_Mask.B))))))))))))))))), .inBlock 2, .code (c2 (c2 (c1 (c1 (c2 (c1 (c1 (c2 (c1 (c2 (c2 (c2 (c2 (c2 r4_Mask.B)))))))))))))), .inBlock 1, .code (c2 (c2 (c1 (c1 (c2 (c1 (c2 (c2 (c2 (c2 (c2 r4_Mask.B))))))))))), .inLoop (c1 (c1 (c2 (c1 (c2 (c2 (c2 (c2 (c2 r4_Mask.B))))))))), .inBlock 0, .code (c2 (c2 (c2 (c2 (c2 (c2 r4_Mask.B))))))] [(1, .int .i64 a1), (2, .pointer (some (pt b1 0))), (4, .pointer (some (pt b2 0))), (7, .pointer (some (pt b6 0))), (8, .int .i64 s7), (9, .int .i64 s22), (10, .int .i64 s23)] [(b6, c_api_IP.enc s8), (b2, c_api_IP.enc z_api_IP), (b1, c_api_IP.enc a0)] (r4_Mask.L2 a0 a1 s7 s8 s22 s23) (r4_Mask.F2 a0 a1 b1 b2 b6 s7 s8) := by
 unfold r4_Mask.L2
 refine SJ.seq <| SJ.sr 5 <| OJ.go 5 [(38, .bool (decide (s23 < (IntKind.wrap .i64 ((IntKind.wrap .i64 (8 * s7)) + 8))))), (37, .int .i64 (IntKind.wrap .i64 ((IntKind.wrap .i64 (8 * s7)) + 8))), (36, .int .i64 (IntKind.wrap .i64 (8 * s7))), (35, .int .i64 s7), (34, .int .i64 s23)] <| OJ.nil <| SJ.cond (t := (.tmp 38)) (b := decide (s23 < (IntKind.wrap .i64 ((IntKind.wrap .i64 (8 * s7)) + 8)))) decide_eq_true_iff (fun hc33 => ?_) (fun hc33 => ?_)
 ·refine SJ.skip <| SJ.seq <| SJ.block (id := 3) <| SJ.sr 3 <| OJ.go 3 [(9, .int .i64 (IntKind.wrap .i64 (2 * s22))), (42, .int .i64 (IntKind.wrap .i64 (2 * s22))), (41, .int .i64 s22)] <| OJ.nil <| SJ.sr 3 <| OJ.go 3 [(45, .bool (decide (s23 < a1))), (44, .int .i64 a1), (43, .int .i64 s23)] <| OJ.nil <| SJ.cond (t := (.tmp 45)) (b := decide (s23 < a1)) decide_eq_true_iff (fun hc32 => ?_) (fun hc32 => ?_)
  ·refine SJ.rg 6 <| OJ.go 1 [(46, .int .i64 (IntKind.wrap .i64 (2 * s22)))] <| OJ.kld (d := 47) (y := .tmp 2) (cd := c_api_IP) (j := 2) (b := b1) (o := 0) a0 (pend2 := []) Ty28 rfl (At.whole _) rfl ?_
   refine OJ.go 1 [(48, .int .i64 s23)] <| OJ.call (d := 49) (g := 82) (ats := #[28, 3]) (args := [.tmp 47, .tmp 48]) (owed := []) F82 (r4_bit_ok a0 s23) (fun r31 => ?_)
   exact OW.nil <| OJ.go 2 [(9, .int .i64 (IntKind.wrap .i64 ((IntKind.wrap .i64 (2 * s22)) + r31))), (50, .int .i64 (IntKind.wrap .i64 ((IntKind.wrap .i64 (2 * s22)) + r31)))] <| OJ.nil <| SJ.inBlock <| SJ.rg 3 <| OJ.go 3 [(10, .int .i64 (IntKind.wrap .i64 (s23 + 1))), (40, .int .i64 (IntKind.wrap .i64 (s23 + 1))), (39, .int .i64 s23)] <| OJ.nil <| SJ.at_ [1, 2, 4, 7, 8, 9, 10] rfl
  ·exact SJ.skip <| SJ.inBlock <| SJ.rg 3 <| OJ.go 3 [(10, .int .i64 (IntKind.wrap .i64 (s23 + 1))), (40, .int .i64 (IntKind.wrap .i64 (s23 + 1))), (39, .int .i64 s23)] <| OJ.nil <| SJ.at_ [1, 2, 4, 7, 8, 9, 10] rfl
 ·refine SJ.exit (id := 2) (by rfl) <| SJ.less [1, 2, 4, 7, 8, 9] (m' := [(1, .int .i64 a1), (2, .pointer (some (pt b1 0))), (4, .pointer (some (pt b2 0))), (7, .pointer (some (pt b6 0))), (8, .int .i64 s7), (9, .int .i64 s22)]) ?_
  refine SJ.done ?_
  exact r4_Mask.K1_ok a0 a1 b1 b2 b6 s7 s8 s22
noncomputable def r4_Mask.L1 (a0 : api_IP) (a1 : Int) (s7 : Int) (s8 : api_IP) : M (LS (Int × api_IP) (api_IP × Int)) :=
 if s7 < 16 then
  loopM (fun s_ : (Int × Int) => r4_Mask.L2 a0 a1 s7 s8 s_.1 s_.2) (0, IntKind.wrap .i64 (8 * s7))
 else
  pure (LS.done (s8, 0))
theorem r4_Mask.L1_ok (a0 : api_IP) (a1 : Int) (b1 : Nat) (b2 : Nat) (b6 : Nat) (s7 : Int) (s8 : api_IP) :
  SJ r4_Mask.cx [.code (c1 (c1 (c2 (c1 (c2 (c2 (c2 (c2 (c2 r4_Mask.B))))))))), .inLoop (c1 (c1 (c2 (c1 (c2 (c2 (c2 (c2 (c2 r4_Mask.B))))))))), .inBlock 0, .code (c2 (c2 (c2 (c2 (c2 (c2 r4_Mask.B))))))] [(1, .int .i64 a1), (2, .pointer (some (pt b1 0))), (4, .pointer (some (pt b2 0))), (7, .pointer (some (pt b6 0))), (8, .int .i64 s7)] [(b6, c_api_IP.enc s8), (b2, c_api_IP.enc z_api_IP), (b1, c_api_IP.enc a0)] (r4_Mask.L1 a0 a1 s7 s8) (r4_Mask.F1 a0 a1 b1 b2 b6) := by
 unfold r4_Mask.L1
 refine SJ.seq <| SJ.sr 2 <| OJ.go 2 [(29, .bool (decide (s7 < 16))), (28, .int .i64 s7)] <| OJ.nil <| SJ.cond (t := (.tmp 29)) (b := decide (s7 < 16)) decide_eq_true_iff (fun hc34 => ?_) (fun hc34 => ?_)
 ·exact SJ.skip <| SJ.seq <| SJ.block (id := 1) <| SJ.sr 1 <| OJ.go 1 [(9, .int .i64 0)] <| OJ.nil <| SJ.seq <| SJ.sr 3 <| OJ.go 3 [(10, .int .i64 (IntKind.wrap .i64 (8 * s7))), (33, .int .i64 (IntKind.wrap .i64 (8 * s7))), (32, .int .i64 s7)] <| OJ.nil <| SJ.block (id := 2) <| SJ.loop (fun s_ : (Int × Int) => [(1, .int .i64 a1), (2, .pointer (some (pt b1 0))), (4, .pointer (some (pt b2 0))), (7, .pointer (some (pt b6 0))), (8, .int .i64 s7), (9, .int .i64 s_.1), (10, .int .i64 s_.2)]) (fun s_ : (Int × Int) => [(b6, c_api_IP.enc s8), (b2, c_api_IP.enc z_api_IP), (b1, c_api_IP.enc a0)]) [1, 2, 4, 7, 8, 9, 10] rfl (fun _ _ => rfl) (fun s_ => r4_Mask.L2_ok a0 a1 b1 b2 b6 s7 s8 s_.1 s_.2)
 ·refine SJ.exit (id := 0) (by rfl) <| SJ.sr 3 <| OJ.kld (d := 56) (y := .tmp 7) (cd := c_api_IP) (j := 0) (b := b6) (o := 0) s8 (pend2 := []) Ty28 rfl (At.whole _) rfl ?_
  refine OJ.kst (y := .tmp 4) (z := .tmp 56) (cd := c_api_IP) (u := s8) (j := 1) (b := b2) (o := 0) (c_api_IP.enc s8) (owed := []) Ty28 rfl (Upd.whole ((Cod.len _ _).trans (Cod.len _ _).symm)) rfl ?_
  exact OW.nil <| OJ.go 1 [(5, .int .i64 0)] <| OJ.nil <| SJ.ret rfl (Res.run (ys := [c_api_IP.val s8, .int .i64 0]) (.cell (j := 1) (b := b2) (cd := c_api_IP) (q := s8) (by kernel_rfl) rfl Ty28 (At.whole _) (.tmp (by kernel_rfl) .nil)) rfl)
noncomputable def r4_Mask (a0 : api_IP) (a1 : Int) : M (api_IP × Int) :=
 slot 28 >>= fun b1 =>
 slot 28 >>= fun b2 =>
 r4_Valid a0 >>= fun r3 =>
 if ¬ (r3 = true) then
  pure (z_api_IP, 40)
 else
  (if a1 < 0 then
    pure true
   else
    r4_width a0 >>= fun r4 =>
    pure (decide (a1 > r4))) >>= fun y5 =>
  if y5 = true then
   pure (z_api_IP, 45)
  else
   slot 28 >>= fun b6 =>
   loopM (fun s_ : (Int × api_IP) => r4_Mask.L1 a0 a1 s_.1 s_.2) (0, (⟨a0.V, z_api_IP.A⟩ : api_IP))
theorem r4_Mask_ok (a0 : api_IP) (a1 : Int) : Ref Tryz.prog 50 [c_api_IP.val a0, .int .i64 a1] (r4_Mask a0 a1) r4_Mask.out := by
 refine Ref.of (cd := r4_Mask.B) Tryz.func50 ?_
 show SJ r4_Mask.cx [.code r4_Mask.B] [(0, c_api_IP.val a0), (1, .int .i64 a1)] [] (r4_Mask a0 a1) r4_Mask.F0
 unfold r4_Mask
 refine SJ.sr 3 <| OJ.slotOf (d := 2) (op := (.box 28 (.tmp 0))) (cd := c_api_IP) (u := a0) (owed := []) (box_run (by kernel_rfl)) (fun b1 => ?_)
 refine OW.nil <| OJ.slotOf (d := 4) (op := (.alloc 28)) (cd := c_api_IP) (u := z_api_IP) (owed := []) (alloc_run Ty28) (fun b2 => ?_)
 refine OW.nil <| OJ.go 1 [(5, .int .i64 0)] <| OJ.nil <| SJ.sr 3 <| OJ.kld (d := 11) (y := .tmp 2) (cd := c_api_IP) (j := 1) (b := b1) (o := 0) a0 (pend2 := []) Ty28 rfl (At.whole _) rfl ?_
 refine OJ.call (d := 12) (g := 46) (ats := #[28]) (args := [.tmp 11]) (owed := []) F46 (r4_Valid_ok a0) (fun r3 => ?_)
 refine OW.nil <| OJ.go 1 [(6, .bool r3)] <| OJ.nil <| SJ.seq <| SJ.sr 2 <| OJ.go 2 [(14, .bool (!r3)), (13, .bool r3)] <| OJ.nil <| SJ.cond (t := (.tmp 14)) (b := (!r3)) (bnot_iff Iff.rfl) (fun hc36 => ?_) (fun hc36 => ?_)
 ·refine SJ.sr 3 <| OJ.build (d := 15) (T := 28) (parts := []) (ps := []) (cd := c_api_IP) (z0 := z_api_IP) z_api_IP Ty28 rfl Filled.nil ?_
  refine OJ.kst (y := .tmp 4) (z := .tmp 15) (cd := c_api_IP) (u := z_api_IP) (j := 0) (b := b2) (o := 0) (c_api_IP.enc z_api_IP) (owed := []) Ty28 rfl (Upd.whole ((Cod.len _ _).trans (Cod.len _ _).symm)) rfl ?_
  exact OW.nil <| OJ.go 1 [(5, .int .i64 40)] <| OJ.nil <| SJ.ret rfl (Res.run (ys := [c_api_IP.val z_api_IP, .int .i64 40]) (.cell (j := 0) (b := b2) (cd := c_api_IP) (q := z_api_IP) (by kernel_rfl) rfl Ty28 (At.whole _) (.tmp (by kernel_rfl) .nil)) rfl)
 ·refine SJ.skip <| SJ.seq <| SJ.sr 8 <| OJ.go 3 [(18, .bool (decide (a1 < 0))), (17, .bool (decide (a1 < 0))), (16, .int .i64 a1)] <| OJ.join (b := decide (a1 < 0)) [3, 4, 5, 6, 7] [] [1, 2, 4, 23] (fun y5 => [(1, .int .i64 a1), (2, .pointer (some (pt b1 0))), (4, .pointer (some (pt b2 0))), (23, .bool y5)]) [] [] (t := 18) decide_eq_true_iff (fun hp_ => ?_) (fun hp_ => ?_) (fun _ _ _ _ _ _ h_ => h_) (fun y5 => ?_)
  ·exact OJ.go 5 [(23, .bool true), (22, undef), (21, undef), (20, undef), (19, undef)] <| OJ.x0
  ·refine OJ.go 1 [(19, .int .i64 a1)] <| OJ.kld (d := 20) (y := .tmp 2) (cd := c_api_IP) (j := 1) (b := b1) (o := 0) a0 (pend2 := []) Ty28 rfl (At.whole _) rfl ?_
   refine OJ.call (d := 21) (g := 73) (ats := #[28]) (args := [.tmp 20]) (owed := []) F73 (r4_width_ok a0) (fun r4 => ?_)
   exact OW.nil <| OJ.go 2 [(23, .bool (decide (a1 > r4))), (22, .bool (decide (a1 > r4)))] <| OJ.x0
  ·refine OJ.nil <| SJ.cond (t := (.tmp 23)) (b := y5) Iff.rfl (fun hc35 => ?_) (fun hc35 => ?_)
   ·refine SJ.sr 3 <| OJ.build (d := 24) (T := 28) (parts := []) (ps := []) (cd := c_api_IP) (z0 := z_api_IP) z_api_IP Ty28 rfl Filled.nil ?_
    refine OJ.kst (y := .tmp 4) (z := .tmp 24) (cd := c_api_IP) (u := z_api_IP) (j := 0) (b := b2) (o := 0) (c_api_IP.enc z_api_IP) (owed := []) Ty28 rfl (Upd.whole ((Cod.len _ _).trans (Cod.len _ _).symm)) rfl ?_
    exact OW.nil <| OJ.go 1 [(5, .int .i64 45)] <| OJ.nil <| SJ.ret rfl (Res.run (ys := [c_api_IP.val z_api_IP, .int .i64 45]) (.cell (j := 0) (b := b2) (cd := c_api_IP) (q := z_api_IP) (by kernel_rfl) rfl Ty28 (At.whole _) (.tmp (by kernel_rfl) .nil)) rfl)
   ·refine SJ.skip <| SJ.sr 5 <| OJ.go 1 [(25, .pointer (some (pt b1 0)))] <| OJ.kld (d := 26) (y := .tmp 25) (cd := (cI .i64)) (j := 1) (b := b1) (o := 0) a0.V (pend2 := []) Ty3 rfl (At_api_IP_V a0) rfl ?_
    refine OJ.build (d := 27) (T := 28) (parts := [(0, .tmp 26)]) (ps := [(0, (cI .i64).val a0.V)]) (cd := c_api_IP) (z0 := z_api_IP) (⟨a0.V, z_api_IP.A⟩ : api_IP) Ty28 rfl (Filled.cons (cd := (cI .i64)) (q := a0.V) (o := 0) (by kernel_rfl) (Up_api_IP_V z_api_IP a0.V) Filled.nil) ?_
    refine OJ.slotOf (d := 7) (op := (.alloc 28)) (cd := c_api_IP) (u := z_api_IP) (owed := []) (alloc_run Ty28) (fun b6 => ?_)
    refine OW.nil <| OJ.kst (y := .tmp 7) (z := .tmp 27) (cd := c_api_IP) (u := (⟨a0.V, z_api_IP.A⟩ : api_IP)) (j := 0) (b := b6) (o := 0) (c_api_IP.enc (⟨a0.V, z_api_IP.A⟩ : api_IP)) (owed := []) Ty28 rfl (Upd.whole ((Cod.len _ _).trans (Cod.len _ _).symm)) rfl ?_
    exact OW.nil <| OJ.nil <| SJ.seq <| SJ.sr 1 <| OJ.go 1 [(8, .int .i64 0)] <| OJ.nil <| SJ.block (id := 0) <| SJ.loop (fun s_ : (Int × api_IP) => [(1, .int .i64 a1), (2, .pointer (some (pt b1 0))), (4, .pointer (some (pt b2 0))), (7, .pointer (some (pt b6 0))), (8, .int .i64 s_.1)]) (fun s_ : (Int × api_IP) => [(b6, c_api_IP.enc s_.2), (b2, c_api_IP.enc z_api_IP), (b1, c_api_IP.enc a0)]) [1, 2, 4, 7, 8] rfl (fun _ _ => rfl) (fun s_ => r4_Mask.L1_ok a0 a1 b1 b2 b6 s_.1 s_.2)

/-! ### weir/addr.Contains: function 51 -/
noncomputable def addr_Contains.B : Code := (Tryz.f51.body).getD .skip
noncomputable def addr_Contains.cx : Fx := ⟨Tryz.prog, 51, Tryz.f51⟩
noncomputable def addr_Contains.out (r_ : Bool) : Value := .bool r_
noncomputable def addr_Contains.F0 (r_ : Bool) : Reach := .ret (addr_Contains.out r_)
noncomputable def addr_Contains (a0 : api_Prefix) (a1 : api_IP) : M Bool :=
 slot 38 >>= fun b1 =>
 slot 28 >>= fun b2 =>
 addr_ValidPrefix a0 >>= fun r3 =>
 (if r3 ≠ 0 then
   pure true
  else
   addr_Valid a1 >>= fun r4 =>
   pure (!r4)) >>= fun y5 =>
 (if y5 = true then
   pure true
  else
   pure (a0.IP.V != a1.V)) >>= fun y6 =>
 if y6 = true then
  pure false
 else
  draw >>= fun _ =>
  addr_masked a1.A a0.Len >>= fun r7 =>
  pure (eqv r7 a0.IP.A)
theorem addr_Contains_ok (a0 : api_Prefix) (a1 : api_IP) : Ref Tryz.prog 51 [c_api_Prefix.val a0, c_api_IP.val a1] (addr_Contains a0 a1) addr_Contains.out := by
 refine Ref.of (cd := addr_Contains.B) Tryz.func51 ?_
 show SJ addr_Contains.cx [.code addr_Contains.B] [(0, c_api_Prefix.val a0), (1, c_api_IP.val a1)] [] (addr_Contains a0 a1) addr_Contains.F0
 unfold addr_Contains
 refine SJ.sr 3 <| OJ.slotOf (d := 2) (op := (.box 38 (.tmp 0))) (cd := c_api_Prefix) (u := a0) (owed := []) (box_run (by kernel_rfl)) (fun b1 => ?_)
 refine OW.nil <| OJ.slotOf (d := 3) (op := (.box 28 (.tmp 1))) (cd := c_api_IP) (u := a1) (owed := []) (box_run (by kernel_rfl)) (fun b2 => ?_)
 refine OW.nil <| OJ.go 1 [(4, .bool false)] <| OJ.nil <| SJ.seq <| SJ.sr 16 <| OJ.kld (d := 5) (y := .tmp 2) (cd := c_api_Prefix) (j := 1) (b := b1) (o := 0) a0 (pend2 := []) Ty38 rfl (At.whole _) rfl ?_
 refine OJ.call (d := 6) (g := 47) (ats := #[38]) (args := [.tmp 5]) (owed := []) F47 (addr_ValidPrefix_ok a0) (fun r3 => ?_)
 refine OW.nil <| OJ.go 2 [(8, .bool (r3 != 0)), (7, .bool (r3 != 0))] <| OJ.join (b := (r3 != 0)) [4, 5, 6, 7] [8, 9, 10, 11, 12, 13, 14, 15] [2, 3, 12] (fun y5 => [(2, .pointer (some (pt b1 0))), (3, .pointer (some (pt b2 0))), (12, .bool y5)]) [] [] (t := 8) bne_iff_ne (fun hp_ => ?_) (fun hp_ => ?_) (fun _ _ _ _ _ _ h_ => h_) (fun y5 => ?_)
 ·exact OJ.go 4 [(12, .bool true), (11, undef), (10, undef), (9, undef)] <| OJ.x0
 ·refine OJ.kld (d := 9) (y := .tmp 3) (cd := c_api_IP) (j := 0) (b := b2) (o := 0) a1 (pend2 := []) Ty28 rfl (At.whole _) rfl ?_
  refine OJ.call (d := 10) (g := 16) (ats := #[28]) (args := [.tmp 9]) (owed := []) F16 (addr_Valid_ok a1) (fun r4 => ?_)
  exact OW.nil <| OJ.go 2 [(12, .bool (!r4)), (11, .bool (!r4))] <| OJ.x0
 ·refine OJ.go 1 [(13, .bool y5)] <| OJ.join (b := y5) [9, 10, 11, 12, 13, 14, 15] [] [2, 3, 20] (fun y6 => [(2, .pointer (some (pt b1 0))), (3, .pointer (some (pt b2 0))), (20, .bool y6)]) [] [] (t := 13) Iff.rfl (fun hp_ => ?_) (fun hp_ => ?_) (fun _ _ _ _ _ _ h_ => h_) (fun y6 => ?_)
  ·exact OJ.go 7 [(20, .bool true), (19, undef), (18, undef), (17, undef), (16, undef), (15, undef), (14, undef)] <| OJ.x0
  ·refine OJ.go 2 [(15, .pointer (some (pt b1 0))), (14, .pointer (some (pt b1 0)))] <| OJ.kld (d := 16) (y := .tmp 15) (cd := (cI .i64)) (j := 1) (b := b1) (o := 0) a0.IP.V (pend2 := []) Ty3 rfl (At.trans (At_api_Prefix_IP a0) (At_api_IP_V a0.IP)) rfl ?_
   refine OJ.go 1 [(17, .pointer (some (pt b2 0)))] <| OJ.kld (d := 18) (y := .tmp 17) (cd := (cI .i64)) (j := 0) (b := b2) (o := 0) a1.V (pend2 := []) Ty3 rfl (At_api_IP_V a1) rfl ?_
   exact OJ.go 2 [(20, .bool (a0.IP.V != a1.V)), (19, .bool (a0.IP.V != a1.V))] <| OJ.x0
  ·refine OJ.nil <| SJ.cond (t := (.tmp 20)) (b := y6) Iff.rfl (fun hc8 => ?_) (fun hc8 => ?_)
   ·exact SJ.sr 1 <| OJ.go 1 [(4, .bool false)] <| OJ.nil <| SJ.r1 (.bool false) rfl rfl
   ·refine SJ.skip <| SJ.seq <| SJ.draw (id := 3) (kd := [0, 1, 0, 1, 2, 0, 0, 1, 0, 0]) (bef := [0, 1, 0, 4, 15, 0, 32, 96, 255, 511]) (ord := [0, 1, 2, 3, 5, 6, 7, 4, 8, 9]) mixed ?_
    refine OJ.go 1 [(21, .pointer (some (pt b2 1)))] <| OJ.kld (d := 22) (y := .tmp 21) (cd := ((cI .u8).arr 16)) (j := 0) (b := b2) (o := 1) a1.A (pend2 := [⟨1, 26, (pt b2 1), ((cI .u8).arr 16).val a1.A⟩]) Ty26 rfl (At_api_IP_A a1) rfl ?_
    refine OJ.go 1 [(23, .pointer (some (pt b1 17)))] <| OJ.kld (d := 24) (y := .tmp 23) (cd := (cI .i64)) (j := 1) (b := b1) (o := 17) a0.Len (pend2 := [⟨3, 3, (pt b1 17), (cI .i64).val a0.Len⟩, ⟨1, 26, (pt b2 1), ((cI .u8).arr 16).val a1.A⟩]) Ty3 rfl (At_api_Prefix_Len a0) rfl ?_
    refine OJ.go 2 [(27, .pointer (some (pt b1 1))), (26, .pointer (some (pt b1 0)))] <| OJ.kld (d := 28) (y := .tmp 27) (cd := ((cI .u8).arr 16)) (j := 1) (b := b1) (o := 1) a0.IP.A (pend2 := [⟨7, 26, (pt b1 1), ((cI .u8).arr 16).val a0.IP.A⟩, ⟨3, 3, (pt b1 17), (cI .i64).val a0.Len⟩, ⟨1, 26, (pt b2 1), ((cI .u8).arr 16).val a1.A⟩]) Ty26 rfl (At.trans (At_api_Prefix_IP a0) (At_api_IP_A a0.IP)) rfl ?_
    refine OJ.call (d := 25) (g := 20) (ats := #[26, 3]) (args := [.tmp 22, .tmp 24]) (owed := [⟨7, 26, (pt b1 1), ((cI .u8).arr 16).val a0.IP.A⟩]) F20 (addr_masked_ok a1.A a0.Len) (fun r7 => ?_)
    refine OW.known (j := 1) (q := a0.IP.A) Ty26 rfl (At.trans (At_api_Prefix_IP a0) (At_api_IP_A a0.IP)) ?_
    refine OW.nil <| OJ.eql (d := 29) (T := 26) (yT := 26) (y := .tmp 25) (z := .tmp 28) (cd := ((cI .u8).arr 16)) (p := r7) (q := a0.IP.A) rfl Eq26 ?_
    exact OJ.go 1 [(4, .bool (eqv r7 a0.IP.A))] <| OJ.nil <| SJ.r1 (.bool (eqv r7 a0.IP.A)) rfl rfl

/-! ### weir/weirref4.Contains: function 52 -/
noncomputable def r4_Contains.B : Code := (Tryz.f52.body).getD .skip
noncomputable def r4_Contains.cx : Fx := ⟨Tryz.prog, 52, Tryz.f52⟩
noncomputable def r4_Contains.out (r_ : Bool) : Value := .bool r_
noncomputable def r4_Contains.F0 (r_ : Bool) : Reach := .ret (r4_Contains.out r_)
noncomputable def r4_Contains.F1 (a0 : api_Prefix) (a1 : api_IP) (b1 : Nat) (b2 : Nat) : (LS Int Bool) → Reach := loopF [.inLoop (c1 (c1 (c2 (c1 (c2 (c2 (c2 (c2 r4_Contains.B)))))))), .inBlock 0, .code (c2 (c2 (c2 (c2 (c2 r4_Contains.B)))))] (fun s_ : Int => [(2, .pointer (some (pt b1 0))), (3, .pointer (some (pt b2 0))), (7, .int .i64 s_)]) (fun s_ : Int => [(b2, c_api_IP.enc a1), (b1, c_api_Prefix.enc a0)]) r4_Contains.F0
noncomputable def r4_Contains.L1 (a0 : api_Prefix) (a1 : api_IP) (s7 : Int) : M (LS Int Bool) :=
 if s7 < a0.Len then
  draw >>= fun _ =>
  r4_bit a0.IP s7 >>= fun r12 =>
  r4_bit a1 s7 >>= fun r13 =>
  if r12 ≠ r13 then
   pure (LS.done false)
  else
   pure (LS.next (IntKind.wrap .i64 (s7 + 1)))
 else
  pure (LS.done true)
theorem r4_Contains.L1_ok (a0 : api_Prefix) (a1 : api_IP) (b1 : Nat) (b2 : Nat) (s7 : Int) :
  SJ r4_Contains.cx [.code (c1 (c1 (c2 (c1 (c2 (c2 (c2 (c2 r4_Contains.B)))))))), .inLoop (c1 (c1 (c2 (c1 (c2 (c2 (c2 (c2 r4_Contains.B)))))))), .inBlock 0, .code (c2 (c2 (c2 (c2 (c2 r4_Contains.B)))))] [(2, .pointer (some (pt b1 0))), (3, .pointer (some (pt b2 0))), (7, .int .i64 s7)] [(b2, c_api_IP.enc a1), (b1, c_api_Prefix.enc a0)] (r4_Contains.L1 a0 a1 s7) (r4_Contains.F1 a0 a1 b1 b2) := by
 unfold r4_Contains.L1
 refine SJ.seq <| SJ.sr 4 <| OJ.go 2 [(27, .pointer (some (pt b1 17))), (26, .int .i64 s7)] <| OJ.kld (d := 28) (y := .tmp 27) (cd := (cI .i64)) (j := 1) (b := b1) (o := 17) a0.Len (pend2 := []) Ty3 rfl (At_api_Prefix_Len a0) rfl ?_
 refine OJ.go 1 [(29, .bool (decide (s7 < a0.Len)))] <| OJ.nil <| SJ.cond (t := (.tmp 29)) (b := decide (s7 < a0.Len)) decide_eq_true_iff (fun hc15 => ?_) (fun hc15 => ?_)
 ·refine SJ.skip <| SJ.seq <| SJ.block (id := 1) <| SJ.seq <| SJ.draw (id := 8) (kd := [0, 1, 0, 2, 1, 0, 2, 0]) (bef := [0, 1, 0, 7, 0, 0, 63, 127]) (ord := [0, 1, 2, 4, 3, 5, 6, 7]) mixed ?_
  refine OJ.go 1 [(32, .pointer (some (pt b1 0)))] <| OJ.kld (d := 33) (y := .tmp 32) (cd := c_api_IP) (j := 1) (b := b1) (o := 0) a0.IP (pend2 := [⟨1, 28, (pt b1 0), c_api_IP.val a0.IP⟩]) Ty28 rfl (At_api_Prefix_IP a0) rfl ?_
  refine OJ.go 1 [(34, .int .i64 s7)] <| OJ.kld (d := 36) (y := .tmp 3) (cd := c_api_IP) (j := 0) (b := b2) (o := 0) a1 (pend2 := [⟨4, 28, (pt b2 0), c_api_IP.val a1⟩, ⟨1, 28, (pt b1 0), c_api_IP.val a0.IP⟩]) Ty28 rfl (At.whole _) rfl ?_
  refine OJ.call (d := 35) (g := 82) (ats := #[28, 3]) (args := [.tmp 33, .tmp 34]) (owed := [⟨4, 28, (pt b2 0), c_api_IP.val a1⟩]) F82 (r4_bit_ok a0.IP s7) (fun r12 => ?_)
  refine OW.known (j := 0) (q := a1) Ty28 rfl (At.whole _) ?_
  refine OW.nil <| OJ.go 1 [(37, .int .i64 s7)] <| OJ.call (d := 38) (g := 82) (ats := #[28, 3]) (args := [.tmp 36, .tmp 37]) (owed := []) F82 (r4_bit_ok a1 s7) (fun r13 => ?_)
  refine OW.nil <| OJ.go 1 [(39, .bool (r12 != r13))] <| OJ.nil <| SJ.cond (t := (.tmp 39)) (b := (r12 != r13)) bne_iff_ne (fun hc14 => ?_) (fun hc14 => ?_)
  ·exact SJ.sr 1 <| OJ.go 1 [(4, .bool false)] <| OJ.nil <| SJ.r1 (.bool false) rfl rfl
  ·exact SJ.skip <| SJ.inBlock <| SJ.rg 3 <| OJ.go 3 [(7, .int .i64 (IntKind.wrap .i64 (s7 + 1))), (31, .int .i64 (IntKind.wrap .i64 (s7 + 1))), (30, .int .i64 s7)] <| OJ.nil <| SJ.at_ [2, 3, 7] rfl
 ·exact SJ.exit (id := 0) (by rfl) <| SJ.sr 1 <| OJ.go 1 [(4, .bool true)] <| OJ.nil <| SJ.r1 (.bool true) rfl rfl
noncomputable def r4_Contains (a0 : api_Prefix) (a1 : api_IP) : M Bool :=
 slot 38 >>= fun b1 =>
 slot 28 >>= fun b2 =>
 r4_ValidPrefix a0 >>= fun r3 =>
 r4_Valid a1 >>= fun r4 =>
 (if r3 ≠ 0 then
   pure true
  else
   pure (!r4)) >>= fun y5 =>
 (if y5 = true then
   pure true
  else
   pure (a0.IP.V != a1.V)) >>= fun y6 =>
 if y6 = true then
  pure false
 else
  loopM (fun s_ : Int => r4_Contains.L1 a0 a1 s_) 0
theorem r4_Contains_ok (a0 : api_Prefix) (a1 : api_IP) : Ref Tryz.prog 52 [c_api_Prefix.val a0, c_api_IP.val a1] (r4_Contains a0 a1) r4_Contains.out := by
 refine Ref.of (cd := r4_Contains.B) Tryz.func52 ?_
 show SJ r4_Contains.cx [.code r4_Contains.B] [(0, c_api_Prefix.val a0), (1, c_api_IP.val a1)] [] (r4_Contains a0 a1) r4_Contains.F0
 unfold r4_Contains
 refine SJ.sr 3 <| OJ.slotOf (d := 2) (op := (.box 38 (.tmp 0))) (cd := c_api_Prefix) (u := a0) (owed := []) (box_run (by kernel_rfl)) (fun b1 => ?_)
 refine OW.nil <| OJ.slotOf (d := 3) (op := (.box 28 (.tmp 1))) (cd := c_api_IP) (u := a1) (owed := []) (box_run (by kernel_rfl)) (fun b2 => ?_)
 refine OW.nil <| OJ.go 1 [(4, .bool false)] <| OJ.nil <| SJ.sr 3 <| OJ.kld (d := 8) (y := .tmp 2) (cd := c_api_Prefix) (j := 1) (b := b1) (o := 0) a0 (pend2 := []) Ty38 rfl (At.whole _) rfl ?_
 refine OJ.call (d := 9) (g := 48) (ats := #[38]) (args := [.tmp 8]) (owed := []) F48 (r4_ValidPrefix_ok a0) (fun r3 => ?_)
 refine OW.nil <| OJ.go 1 [(5, .int .i64 r3)] <| OJ.nil <| SJ.sr 3 <| OJ.kld (d := 10) (y := .tmp 3) (cd := c_api_IP) (j := 0) (b := b2) (o := 0) a1 (pend2 := []) Ty28 rfl (At.whole _) rfl ?_
 refine OJ.call (d := 11) (g := 46) (ats := #[28]) (args := [.tmp 10]) (owed := []) F46 (r4_Valid_ok a1) (fun r4 => ?_)
 refine OW.nil <| OJ.go 1 [(6, .bool r4)] <| OJ.nil <| SJ.seq <| SJ.sr 14 <| OJ.go 3 [(14, .bool (r3 != 0)), (13, .bool (r3 != 0)), (12, .int .i64 r3)] <| OJ.join (b := (r3 != 0)) [3, 4, 5] [6, 7, 8, 9, 10, 11, 12, 13] [2, 3, 17] (fun y5 => [(2, .pointer (some (pt b1 0))), (3, .pointer (some (pt b2 0))), (17, .bool y5)]) [] [] (t := 14) bne_iff_ne (fun hp_ => ?_) (fun hp_ => ?_) (fun _ _ _ _ _ _ h_ => h_) (fun y5 => ?_)
 ·exact OJ.go 3 [(17, .bool true), (16, undef), (15, undef)] <| OJ.x0
 ·exact OJ.go 3 [(17, .bool (!r4)), (16, .bool (!r4)), (15, .bool r4)] <| OJ.x0
 ·refine OJ.go 1 [(18, .bool y5)] <| OJ.join (b := y5) [7, 8, 9, 10, 11, 12, 13] [] [2, 3, 25] (fun y6 => [(2, .pointer (some (pt b1 0))), (3, .pointer (some (pt b2 0))), (25, .bool y6)]) [] [] (t := 18) Iff.rfl (fun hp_ => ?_) (fun hp_ => ?_) (fun _ _ _ _ _ _ h_ => h_) (fun y6 => ?_)
  ·exact OJ.go 7 [(25, .bool true), (24, undef), (23, undef), (22, undef), (21, undef), (20, undef), (19, undef)] <| OJ.x0
  ·refine OJ.go 2 [(20, .pointer (some (pt b1 0))), (19, .pointer (some (pt b1 0)))] <| OJ.kld (d := 21) (y := .tmp 20) (cd := (cI .i64)) (j := 1) (b := b1) (o := 0) a0.IP.V (pend2 := []) Ty3 rfl (At.trans (At_api_Prefix_IP a0) (At_api_IP_V a0.IP)) rfl ?_
   refine OJ.go 1 [(22, .pointer (some (pt b2 0)))] <| OJ.kld (d := 23) (y := .tmp 22) (cd := (cI .i64)) (j := 0) (b := b2) (o := 0) a1.V (pend2 := []) Ty3 rfl (At_api_IP_V a1) rfl ?_
   exact OJ.go 2 [(25, .bool (a0.IP.V != a1.V)), (24, .bool (a0.IP.V != a1.V))] <| OJ.x0
  ·refine OJ.nil <| SJ.cond (t := (.tmp 25)) (b := y6) Iff.rfl (fun hc16 => ?_) (fun hc16 => ?_)
   ·exact SJ.sr 1 <| OJ.go 1 [(4, .bool false)] <| OJ.nil <| SJ.r1 (.bool false) rfl rfl
   ·exact SJ.skip <| SJ.seq <| SJ.sr 1 <| OJ.go 1 [(7, .int .i64 0)] <| OJ.nil <| SJ.block (id := 0) <| SJ.loop (fun s_ : Int => [(2, .pointer (some (pt b1 0))), (3, .pointer (some (pt b2 0))), (7, .int .i64 s_)]) (fun s_ : Int => [(b2, c_api_IP.enc a1), (b1, c_api_Prefix.enc a0)]) [2, 3, 7] rfl (fun _ _ => rfl) (fun s_ => r4_Contains.L1_ok a0 a1 b1 b2 s_)

/-! ### weir/weirref4.of: function 83 -/
noncomputable def r4_of.B : Code := (Tryz.f83.body).getD .skip
noncomputable def r4_of.cx : Fx := ⟨Tryz.prog, 83, Tryz.f83⟩
noncomputable def r4_of.out (r_ : Bool) : Value := .bool r_
noncomputable def r4_of.F0 (r_ : Bool) : Reach := .ret (r4_of.out r_)
noncomputable def r4_of (a0 : ByteArray) (a1 : api_IP) : M Bool :=
 slot 28 >>= fun b1 =>
 r4_ParsePrefix a0 >>= fun r2 =>
 slot 38 >>= fun b3 =>
 r4_Contains r2.1 a1 >>= fun r4 =>
 pure r4
theorem r4_of_ok (a0 : ByteArray) (a1 : api_IP) : Ref Tryz.prog 83 [.string a0, c_api_IP.val a1] (r4_of a0 a1) r4_of.out := by
 refine Ref.of (cd := r4_of.B) Tryz.func83 ?_
 show SJ r4_of.cx [.code r4_of.B] [(0, .string a0), (1, c_api_IP.val a1)] [] (r4_of a0 a1) r4_of.F0
 unfold r4_of
 refine SJ.sr 2 <| OJ.slotOf (d := 3) (op := (.box 28 (.tmp 1))) (cd := c_api_IP) (u := a1) (owed := []) (box_run (by kernel_rfl)) (fun b1 => ?_)
 refine OW.nil <| OJ.go 1 [(4, .bool false)] <| OJ.nil <| SJ.sr 10 <| OJ.go 1 [(9, .string a0)] <| OJ.call (d := 10) (g := 38) (ats := #[9]) (args := [.tmp 9]) (owed := []) F38 (r4_ParsePrefix_ok a0) (fun r2 => ?_)
 refine OW.nil <| OJ.go 4 [(13, .int .i64 r2.2.2), (12, .int .i64 r2.2.1), (11, c_api_Prefix.val r2.1), (8, .tuple #[c_api_Prefix.val r2.1, .int .i64 r2.2.1, .int .i64 r2.2.2])] <| OJ.slotOf (d := 5) (op := (.alloc 38)) (cd := c_api_Prefix) (u := z_api_Prefix) (owed := []) (alloc_run Ty38) (fun b3 => ?_)
 refine OW.nil <| OJ.kst (y := .tmp 5) (z := .tmp 11) (cd := c_api_Prefix) (u := r2.1) (j := 0) (b := b3) (o := 0) (c_api_Prefix.enc r2.1) (owed := []) Ty38 rfl (Upd.whole ((Cod.len _ _).trans (Cod.len _ _).symm)) rfl ?_
 refine OW.nil <| OJ.go 2 [(7, .int .i64 r2.2.2), (6, .int .i64 r2.2.1)] <| OJ.nil <| SJ.sr 4 <| OJ.kld (d := 14) (y := .tmp 5) (cd := c_api_Prefix) (j := 0) (b := b3) (o := 0) r2.1 (pend2 := []) Ty38 rfl (At.whole _) rfl ?_
 refine OJ.kld (d := 15) (y := .tmp 3) (cd := c_api_IP) (j := 1) (b := b1) (o := 0) a1 (pend2 := []) Ty28 rfl (At.whole _) rfl ?_
 refine OJ.call (d := 16) (g := 52) (ats := #[38, 28]) (args := [.tmp 14, .tmp 15]) (owed := []) F52 (r4_Contains_ok r2.1 a1) (fun r4 => ?_)
 exact OW.nil <| OJ.go 1 [(4, .bool r4)] <| OJ.nil <| SJ.r1 (.bool r4) rfl rfl

/-! ### weir/weirref4.Class: function 53 -/
noncomputable def r4_Class.B : Code := (Tryz.f53.body).getD .skip
noncomputable def r4_Class.cx : Fx := ⟨Tryz.prog, 53, Tryz.f53⟩
noncomputable def r4_Class.out (r_ : Int) : Value := .int .i64 r_
noncomputable def r4_Class.F0 (r_ : Int) : Reach := .ret (r4_Class.out r_)
noncomputable def r4_Class (a0 : api_IP) : M Int :=
 slot 28 >>= fun b1 =>
 r4_Valid a0 >>= fun r2 =>
 if ¬ (r2 = true) then
  pure 0
 else
  r4_of str13 a0 >>= fun r287 =>
  (if r287 = true then
    pure true
   else
    r4_of str14 a0 >>= fun r288 =>
    pure r288) >>= fun y289 =>
  if y289 = true then
   pure 1
  else
   r4_of str15 a0 >>= fun r430 =>
   (if r430 = true then
     pure true
    else
     r4_of str16 a0 >>= fun r431 =>
     pure r431) >>= fun y432 =>
   if y432 = true then
    pure 2
   else
    r4_of str17 a0 >>= fun r501 =>
    (if r501 = true then
      pure true
     else
      r4_of str18 a0 >>= fun r502 =>
      pure r502) >>= fun y503 =>
    if y503 = true then
     pure 3
    else
     r4_of str19 a0 >>= fun r536 =>
     (if r536 = true then
       pure true
      else
       r4_of str20 a0 >>= fun r537 =>
       pure r537) >>= fun y538 =>
     if y538 = true then
      pure 4
     else
      r4_of str21 a0 >>= fun r553 =>
      if r553 = true then
       pure 5
      else
       r4_of str22 a0 >>= fun r560 =>
       (if r560 = true then
         pure true
        else
         r4_of str23 a0 >>= fun r561 =>
         pure r561) >>= fun y562 =>
       (if y562 = true then
         pure true
        else
         r4_of str24 a0 >>= fun r563 =>
         pure r563) >>= fun y564 =>
       if y564 = true then
        pure 6
       else
        pure 7
theorem r4_Class_ok (a0 : api_IP) : Ref Tryz.prog 53 [c_api_IP.val a0] (r4_Class a0) r4_Class.out := by
 refine Ref.of (cd := r4_Class.B) Tryz.func53 ?_
 show SJ r4_Class.cx [.code r4_Class.B] [(0, c_api_IP.val a0)] [] (r4_Class a0) r4_Class.F0
 unfold r4_Class
 refine SJ.sr 2 <| OJ.slotOf (d := 1) (op := (.box 28 (.tmp 0))) (cd := c_api_IP) (u := a0) (owed := []) (box_run (by kernel_rfl)) (fun b1 => ?_)
 refine OW.nil <| OJ.go 1 [(2, .int .i64 0)] <| OJ.nil <| SJ.sr 3 <| OJ.kld (d := 4) (y := .tmp 1) (cd := c_api_IP) (j := 0) (b := b1) (o := 0) a0 (pend2 := []) Ty28 rfl (At.whole _) rfl ?_
 refine OJ.call (d := 5) (g := 46) (ats := #[28]) (args := [.tmp 4]) (owed := []) F46 (r4_Valid_ok a0) (fun r2 => ?_)
 refine OW.nil <| OJ.go 1 [(3, .bool r2)] <| OJ.nil <| SJ.seq <| SJ.block (id := 0) <| SJ.sr 3 <| OJ.go 3 [(6, .bool (!r2)), (8, .bool (!r2)), (7, .bool r2)] <| OJ.nil <| SJ.cond (t := (.tmp 6)) (b := (!r2)) (bnot_iff Iff.rfl) (fun hc571 => ?_) (fun hc571 => ?_)
 ·exact SJ.sr 1 <| OJ.go 1 [(2, .int .i64 0)] <| OJ.nil <| SJ.r1 (.int .i64 0) rfl rfl
 ·refine SJ.sr 7 <| OJ.kld (d := 10) (y := .tmp 1) (cd := c_api_IP) (j := 0) (b := b1) (o := 0) a0 (pend2 := []) Ty28 rfl (At.whole _) rfl ?_
  refine OJ.call (d := 11) (g := 83) (ats := #[9, 28]) (args := [.const (.string str13), .tmp 10]) (owed := []) F83 (r4_of_ok str13 a0) (fun r287 => ?_)
  refine OW.nil <| OJ.go 1 [(12, .bool r287)] <| OJ.join (b := r287) [3, 4, 5] [6] [1, 15] (fun y289 => [(1, .pointer (some (pt b1 0))), (15, .bool y289)]) [] [] (t := 12) Iff.rfl (fun hp_ => ?_) (fun hp_ => ?_) (fun _ _ _ _ _ _ h_ => h_) (fun y289 => ?_)
  ·exact OJ.go 3 [(15, .bool true), (14, undef), (13, undef)] <| OJ.x0
  ·refine OJ.kld (d := 13) (y := .tmp 1) (cd := c_api_IP) (j := 0) (b := b1) (o := 0) a0 (pend2 := []) Ty28 rfl (At.whole _) rfl ?_
   refine OJ.call (d := 14) (g := 83) (ats := #[9, 28]) (args := [.const (.string str14), .tmp 13]) (owed := []) F83 (r4_of_ok str14 a0) (fun r288 => ?_)
   exact OW.nil <| OJ.go 1 [(15, .bool r288)] <| OJ.x0
  ·refine OJ.go 1 [(9, .bool y289)] <| OJ.nil <| SJ.cond (t := (.tmp 9)) (b := y289) Iff.rfl (fun hc570 => ?_) (fun hc570 => ?_)
   ·exact SJ.sr 1 <| OJ.go 1 [(2, .int .i64 1)] <| OJ.nil <| SJ.r1 (.int .i64 1) rfl rfl
   ·refine SJ.sr 7 <| OJ.kld (d := 17) (y := .tmp 1) (cd := c_api_IP) (j := 0) (b := b1) (o := 0) a0 (pend2 := []) Ty28 rfl (At.whole _) rfl ?_
    refine OJ.call (d := 18) (g := 83) (ats := #[9, 28]) (args := [.const (.string str15), .tmp 17]) (owed := []) F83 (r4_of_ok str15 a0) (fun r430 => ?_)
    refine OW.nil <| OJ.go 1 [(19, .bool r430)] <| OJ.join (b := r430) [3, 4, 5] [6] [1, 22] (fun y432 => [(1, .pointer (some (pt b1 0))), (22, .bool y432)]) [] [] (t := 19) Iff.rfl (fun hp_ => ?_) (fun hp_ => ?_) (fun _ _ _ _ _ _ h_ => h_) (fun y432 => ?_)
    ·exact OJ.go 3 [(22, .bool true), (21, undef), (20, undef)] <| OJ.x0
    ·refine OJ.kld (d := 20) (y := .tmp 1) (cd := c_api_IP) (j := 0) (b := b1) (o := 0) a0 (pend2 := []) Ty28 rfl (At.whole _) rfl ?_
     refine OJ.call (d := 21) (g := 83) (ats := #[9, 28]) (args := [.const (.string str16), .tmp 20]) (owed := []) F83 (r4_of_ok str16 a0) (fun r431 => ?_)
     exact OW.nil <| OJ.go 1 [(22, .bool r431)] <| OJ.x0
    ·refine OJ.go 1 [(16, .bool y432)] <| OJ.nil <| SJ.cond (t := (.tmp 16)) (b := y432) Iff.rfl (fun hc569 => ?_) (fun hc569 => ?_)
     ·exact SJ.sr 1 <| OJ.go 1 [(2, .int .i64 2)] <| OJ.nil <| SJ.r1 (.int .i64 2) rfl rfl
     ·refine SJ.sr 7 <| OJ.kld (d := 24) (y := .tmp 1) (cd := c_api_IP) (j := 0) (b := b1) (o := 0) a0 (pend2 := []) Ty28 rfl (At.whole _) rfl ?_
      refine OJ.call (d := 25) (g := 83) (ats := #[9, 28]) (args := [.const (.string str17), .tmp 24]) (owed := []) F83 (r4_of_ok str17 a0) (fun r501 => ?_)
      refine OW.nil <| OJ.go 1 [(26, .bool r501)] <| OJ.join (b := r501) [3, 4, 5] [6] [1, 29] (fun y503 => [(1, .pointer (some (pt b1 0))), (29, .bool y503)]) [] [] (t := 26) Iff.rfl (fun hp_ => ?_) (fun hp_ => ?_) (fun _ _ _ _ _ _ h_ => h_) (fun y503 => ?_)
      ·exact OJ.go 3 [(29, .bool true), (28, undef), (27, undef)] <| OJ.x0
      ·refine OJ.kld (d := 27) (y := .tmp 1) (cd := c_api_IP) (j := 0) (b := b1) (o := 0) a0 (pend2 := []) Ty28 rfl (At.whole _) rfl ?_
       refine OJ.call (d := 28) (g := 83) (ats := #[9, 28]) (args := [.const (.string str18), .tmp 27]) (owed := []) F83 (r4_of_ok str18 a0) (fun r502 => ?_)
       exact OW.nil <| OJ.go 1 [(29, .bool r502)] <| OJ.x0
      ·refine OJ.go 1 [(23, .bool y503)] <| OJ.nil <| SJ.cond (t := (.tmp 23)) (b := y503) Iff.rfl (fun hc568 => ?_) (fun hc568 => ?_)
       ·exact SJ.sr 1 <| OJ.go 1 [(2, .int .i64 3)] <| OJ.nil <| SJ.r1 (.int .i64 3) rfl rfl
       ·refine SJ.sr 7 <| OJ.kld (d := 31) (y := .tmp 1) (cd := c_api_IP) (j := 0) (b := b1) (o := 0) a0 (pend2 := []) Ty28 rfl (At.whole _) rfl ?_
        refine OJ.call (d := 32) (g := 83) (ats := #[9, 28]) (args := [.const (.string str19), .tmp 31]) (owed := []) F83 (r4_of_ok str19 a0) (fun r536 => ?_)
        refine OW.nil <| OJ.go 1 [(33, .bool r536)] <| OJ.join (b := r536) [3, 4, 5] [6] [1, 36] (fun y538 => [(1, .pointer (some (pt b1 0))), (36, .bool y538)]) [] [] (t := 33) Iff.rfl (fun hp_ => ?_) (fun hp_ => ?_) (fun _ _ _ _ _ _ h_ => h_) (fun y538 => ?_)
        ·exact OJ.go 3 [(36, .bool true), (35, undef), (34, undef)] <| OJ.x0
        ·refine OJ.kld (d := 34) (y := .tmp 1) (cd := c_api_IP) (j := 0) (b := b1) (o := 0) a0 (pend2 := []) Ty28 rfl (At.whole _) rfl ?_
         refine OJ.call (d := 35) (g := 83) (ats := #[9, 28]) (args := [.const (.string str20), .tmp 34]) (owed := []) F83 (r4_of_ok str20 a0) (fun r537 => ?_)
         exact OW.nil <| OJ.go 1 [(36, .bool r537)] <| OJ.x0
        ·refine OJ.go 1 [(30, .bool y538)] <| OJ.nil <| SJ.cond (t := (.tmp 30)) (b := y538) Iff.rfl (fun hc567 => ?_) (fun hc567 => ?_)
         ·exact SJ.sr 1 <| OJ.go 1 [(2, .int .i64 4)] <| OJ.nil <| SJ.r1 (.int .i64 4) rfl rfl
         ·refine SJ.sr 3 <| OJ.kld (d := 38) (y := .tmp 1) (cd := c_api_IP) (j := 0) (b := b1) (o := 0) a0 (pend2 := []) Ty28 rfl (At.whole _) rfl ?_
          refine OJ.call (d := 39) (g := 83) (ats := #[9, 28]) (args := [.const (.string str21), .tmp 38]) (owed := []) F83 (r4_of_ok str21 a0) (fun r553 => ?_)
          refine OW.nil <| OJ.go 1 [(37, .bool r553)] <| OJ.nil <| SJ.cond (t := (.tmp 37)) (b := r553) Iff.rfl (fun hc566 => ?_) (fun hc566 => ?_)
          ·exact SJ.sr 1 <| OJ.go 1 [(2, .int .i64 5)] <| OJ.nil <| SJ.r1 (.int .i64 5) rfl rfl
          ·refine SJ.sr 11 <| OJ.kld (d := 41) (y := .tmp 1) (cd := c_api_IP) (j := 0) (b := b1) (o := 0) a0 (pend2 := []) Ty28 rfl (At.whole _) rfl ?_
           refine OJ.call (d := 42) (g := 83) (ats := #[9, 28]) (args := [.const (.string str22), .tmp 41]) (owed := []) F83 (r4_of_ok str22 a0) (fun r560 => ?_)
           refine OW.nil <| OJ.go 1 [(43, .bool r560)] <| OJ.join (b := r560) [3, 4, 5] [6, 7, 8, 9, 10] [1, 46] (fun y562 => [(1, .pointer (some (pt b1 0))), (46, .bool y562)]) [] [] (t := 43) Iff.rfl (fun hp_ => ?_) (fun hp_ => ?_) (fun _ _ _ _ _ _ h_ => h_) (fun y562 => ?_)
           ·exact OJ.go 3 [(46, .bool true), (45, undef), (44, undef)] <| OJ.x0
           ·refine OJ.kld (d := 44) (y := .tmp 1) (cd := c_api_IP) (j := 0) (b := b1) (o := 0) a0 (pend2 := []) Ty28 rfl (At.whole _) rfl ?_
            refine OJ.call (d := 45) (g := 83) (ats := #[9, 28]) (args := [.const (.string str23), .tmp 44]) (owed := []) F83 (r4_of_ok str23 a0) (fun r561 => ?_)
            exact OW.nil <| OJ.go 1 [(46, .bool r561)] <| OJ.x0
           ·refine OJ.go 1 [(47, .bool y562)] <| OJ.join (b := y562) [7, 8, 9] [10] [50] (fun y564 => [(50, .bool y564)]) [] [] (t := 47) Iff.rfl (fun hp_ => ?_) (fun hp_ => ?_) (fun _ _ _ _ _ _ h_ => h_) (fun y564 => ?_)
            ·exact OJ.go 3 [(50, .bool true), (49, undef), (48, undef)] <| OJ.x0
            ·refine OJ.kld (d := 48) (y := .tmp 1) (cd := c_api_IP) (j := 0) (b := b1) (o := 0) a0 (pend2 := []) Ty28 rfl (At.whole _) rfl ?_
             refine OJ.call (d := 49) (g := 83) (ats := #[9, 28]) (args := [.const (.string str24), .tmp 48]) (owed := []) F83 (r4_of_ok str24 a0) (fun r563 => ?_)
             exact OW.nil <| OJ.go 1 [(50, .bool r563)] <| OJ.x0
            ·refine OJ.go 1 [(40, .bool y564)] <| OJ.nil <| SJ.cond (t := (.tmp 40)) (b := y564) Iff.rfl (fun hc565 => ?_) (fun hc565 => ?_)
             ·exact SJ.sr 1 <| OJ.go 1 [(2, .int .i64 6)] <| OJ.nil <| SJ.r1 (.int .i64 6) rfl rfl
             ·exact SJ.skip <| SJ.inBlock <| SJ.sr 1 <| OJ.go 1 [(2, .int .i64 7)] <| OJ.nil <| SJ.r1 (.int .i64 7) rfl rfl

/-! ### weir/addr.Less: function 54 -/
noncomputable def addr_Less.B : Code := (Tryz.f54.body).getD .skip
noncomputable def addr_Less.cx : Fx := ⟨Tryz.prog, 54, Tryz.f54⟩
noncomputable def addr_Less.out (r_ : Bool) : Value := .bool r_
noncomputable def addr_Less.F0 (r_ : Bool) : Reach := .ret (addr_Less.out r_)
noncomputable def addr_Less.F1 (a0 : api_IP) (a1 : api_IP) (b1 : Nat) (b2 : Nat) : (LS Int Bool) → Reach := loopF [.inLoop (c1 (c1 (c2 (c1 (c2 (c2 addr_Less.B)))))), .inBlock 0, .code (c2 (c2 (c2 addr_Less.B)))] (fun s_ : Int => [(2, .pointer (some (pt b1 0))), (3, .pointer (some (pt b2 0))), (16, .int .i64 s_)]) (fun s_ : Int => [(b2, c_api_IP.enc a1), (b1, c_api_IP.enc a0)]) addr_Less.F0
noncomputable def addr_Less.L1 (a0 : api_IP) (a1 : api_IP) (s3 : Int) : M (LS Int Bool) :=
 if s3 < 16 then
  draw >>= fun _ =>
  chk ((0 : Int) ≤ s3 ∧ s3 < (16 : Nat)) >>= fun _ =>
  chk ((0 : Int) ≤ s3 ∧ s3 < (16 : Nat)) >>= fun _ =>
  if (Vec.g a0.A s3 0) ≠ (Vec.g a1.A s3 0) then
   draw >>= fun _ =>
   chk ((0 : Int) ≤ s3 ∧ s3 < (16 : Nat)) >>= fun _ =>
   chk ((0 : Int) ≤ s3 ∧ s3 < (16 : Nat)) >>= fun _ =>
   pure (LS.done (decide ((Vec.g a0.A s3 0) < (Vec.g a1.A s3 0))))
  else
   pure (LS.next (IntKind.wrap .i64 (s3 + 1)))
 else
  pure (LS.done false)
theorem addr_Less.L1_ok (a0 : api_IP) (a1 : api_IP) (b1 : Nat) (b2 : Nat) (s3 : Int) :
  SJ addr_Less.cx [.code (c1 (c1 (c2 (c1 (c2 (c2 addr_Less.B)))))), .inLoop (c1 (c1 (c2 (c1 (c2 (c2 addr_Less.B)))))), .inBlock 0, .code (c2 (c2 (c2 addr_Less.B)))] [(2, .pointer (some (pt b1 0))), (3, .pointer (some (pt b2 0))), (16, .int .i64 s3)] [(b2, c_api_IP.enc a1), (b1, c_api_IP.enc a0)] (addr_Less.L1 a0 a1 s3) (addr_Less.F1 a0 a1 b1 b2) := by
 unfold addr_Less.L1
 refine SJ.sr 1 <| OJ.go 1 [(17, .bool (decide (s3 < 16)))] <| OJ.nil <| SJ.seq <| SJ.cond (t := (.tmp 17)) (b := decide (s3 < 16)) decide_eq_true_iff (fun hc31 => ?_) (fun hc31 => ?_)
 ·refine SJ.skip <| SJ.seq <| SJ.block (id := 1) <| SJ.sr 2 <| OJ.go 2 [(5, .int .i64 s3), (18, .int .i64 s3)] <| OJ.nil <| SJ.seq <| SJ.draw (id := 6) (kd := [0, 0, 0, 1, 0, 0, 0, 1, 0]) (bef := [0, 0, 3, 7, 0, 0, 48, 112, 255]) (ord := [0, 1, 2, 3, 4, 5, 6, 7, 8]) mixed ?_
  refine OJ.go 2 [(20, .pointer (some (pt b1 1))), (19, .int .i64 s3)] <| OJ.idxK (d := 21) (T := 26) (y := .tmp 20) (j := .tmp 19) (E := 5) (sz := 1) (b := b1) (o := 1) (k := .i64) (fun hb18 hb19 => ?_)
  refine OJ.kld (d := 22) (y := .tmp 21) (cd := (cI .u8)) (j := 1) (b := b1) (o := (1 + s3.toNat * 1)) (Vec.g a0.A s3 0) (pend2 := [⟨3, 5, (pt b1 (1 + s3.toNat * 1)), (cI .u8).val (Vec.g a0.A s3 0)⟩]) Ty5 rfl (At.trans (At_api_IP_A a0) (At.arr (z := 0) hb18 hb19)) rfl ?_
  refine OJ.go 2 [(24, .pointer (some (pt b2 1))), (23, .int .i64 s3)] <| OJ.idxK (d := 25) (T := 26) (y := .tmp 24) (j := .tmp 23) (E := 5) (sz := 1) (b := b2) (o := 1) (k := .i64) (fun hb20 hb21 => ?_)
  refine OJ.kld (d := 26) (y := .tmp 25) (cd := (cI .u8)) (j := 0) (b := b2) (o := (1 + s3.toNat * 1)) (Vec.g a1.A s3 0) (pend2 := [⟨7, 5, (pt b2 (1 + s3.toNat * 1)), (cI .u8).val (Vec.g a1.A s3 0)⟩, ⟨3, 5, (pt b1 (1 + s3.toNat * 1)), (cI .u8).val (Vec.g a0.A s3 0)⟩]) Ty5 rfl (At.trans (At_api_IP_A a1) (At.arr (z := 0) hb20 hb21)) rfl ?_
  refine OJ.go 1 [(27, .bool ((Vec.g a0.A s3 0) != (Vec.g a1.A s3 0)))] <| OJ.nil <| SJ.cond (t := (.tmp 27)) (b := ((Vec.g a0.A s3 0) != (Vec.g a1.A s3 0))) bne_iff_ne (fun hc30 => ?_) (fun hc30 => ?_)
  ·refine SJ.seq <| SJ.draw (id := 7) (kd := [0, 0, 0, 1, 0, 0, 0, 1, 0, 0]) (bef := [0, 0, 3, 7, 0, 0, 48, 112, 255, 511]) (ord := [0, 1, 2, 3, 4, 5, 6, 7, 8, 9]) mixed ?_
   refine OJ.go 2 [(29, .pointer (some (pt b1 1))), (28, .int .i64 s3)] <| OJ.idxK (d := 30) (T := 26) (y := .tmp 29) (j := .tmp 28) (E := 5) (sz := 1) (b := b1) (o := 1) (k := .i64) (fun hb26 hb27 => ?_)
   refine OJ.kld (d := 31) (y := .tmp 30) (cd := (cI .u8)) (j := 1) (b := b1) (o := (1 + s3.toNat * 1)) (Vec.g a0.A s3 0) (pend2 := [⟨3, 5, (pt b1 (1 + s3.toNat * 1)), (cI .u8).val (Vec.g a0.A s3 0)⟩]) Ty5 rfl (At.trans (At_api_IP_A a0) (At.arr (z := 0) hb26 hb27)) rfl ?_
   refine OJ.go 2 [(33, .pointer (some (pt b2 1))), (32, .int .i64 s3)] <| OJ.idxK (d := 34) (T := 26) (y := .tmp 33) (j := .tmp 32) (E := 5) (sz := 1) (b := b2) (o := 1) (k := .i64) (fun hb28 hb29 => ?_)
   refine OJ.kld (d := 35) (y := .tmp 34) (cd := (cI .u8)) (j := 0) (b := b2) (o := (1 + s3.toNat * 1)) (Vec.g a1.A s3 0) (pend2 := [⟨7, 5, (pt b2 (1 + s3.toNat * 1)), (cI .u8).val (Vec.g a1.A s3 0)⟩, ⟨3, 5, (pt b1 (1 + s3.toNat * 1)), (cI .u8).val (Vec.g a0.A s3 0)⟩]) Ty5 rfl (At.trans (At_api_IP_A a1) (At.arr (z := 0) hb28 hb29)) rfl ?_
   exact OJ.go 2 [(4, .bool (decide ((Vec.g a0.A s3 0) < (Vec.g a1.A s3 0)))), (36, .bool (decide ((Vec.g a0.A s3 0) < (Vec.g a1.A s3 0))))] <| OJ.nil <| SJ.r1 (.bool (decide ((Vec.g a0.A s3 0) < (Vec.g a1.A s3 0)))) rfl rfl
  ·exact SJ.skip <| SJ.inBlock <| SJ.rg 2 <| OJ.go 2 [(16, .int .i64 (IntKind.wrap .i64 (s3 + 1))), (37, .int .i64 (IntKind.wrap .i64 (s3 + 1)))] <| OJ.nil <| SJ.at_ [2, 3, 16] rfl
 ·exact SJ.exit (id := 0) (by rfl) <| SJ.sr 1 <| OJ.go 1 [(4, .bool false)] <| OJ.nil <| SJ.r1 (.bool false) rfl rfl
noncomputable def addr_Less (a0 : api_IP) (a1 : api_IP) : M Bool :=
 slot 28 >>= fun b1 =>
 slot 28 >>= fun b2 =>
 if a0.V ≠ a1.V then
  pure (decide (a0.V < a1.V))
 else
  loopM (fun s_ : Int => addr_Less.L1 a0 a1 s_) 0
theorem addr_Less_ok (a0 : api_IP) (a1 : api_IP) : Ref Tryz.prog 54 [c_api_IP.val a0, c_api_IP.val a1] (addr_Less a0 a1) addr_Less.out := by
 refine Ref.of (cd := addr_Less.B) Tryz.func54 ?_
 show SJ addr_Less.cx [.code addr_Less.B] [(0, c_api_IP.val a0), (1, c_api_IP.val a1)] [] (addr_Less a0 a1) addr_Less.F0
 unfold addr_Less
 refine SJ.sr 3 <| OJ.slotOf (d := 2) (op := (.box 28 (.tmp 0))) (cd := c_api_IP) (u := a0) (owed := []) (box_run (by kernel_rfl)) (fun b1 => ?_)
 refine OW.nil <| OJ.slotOf (d := 3) (op := (.box 28 (.tmp 1))) (cd := c_api_IP) (u := a1) (owed := []) (box_run (by kernel_rfl)) (fun b2 => ?_)
 refine OW.nil <| OJ.go 1 [(4, .bool false)] <| OJ.nil <| SJ.seq <| SJ.sr 5 <| OJ.go 1 [(6, .pointer (some (pt b1 0)))] <| OJ.kld (d := 7) (y := .tmp 6) (cd := (cI .i64)) (j := 1) (b := b1) (o := 0) a0.V (pend2 := []) Ty3 rfl (At_api_IP_V a0) rfl ?_
 refine OJ.go 1 [(8, .pointer (some (pt b2 0)))] <| OJ.kld (d := 9) (y := .tmp 8) (cd := (cI .i64)) (j := 0) (b := b2) (o := 0) a1.V (pend2 := []) Ty3 rfl (At_api_IP_V a1) rfl ?_
 refine OJ.go 1 [(10, .bool (a0.V != a1.V))] <| OJ.nil <| SJ.cond (t := (.tmp 10)) (b := (a0.V != a1.V)) bne_iff_ne (fun hc32 => ?_) (fun hc32 => ?_)
 ·refine SJ.sr 6 <| OJ.go 1 [(11, .pointer (some (pt b1 0)))] <| OJ.kld (d := 12) (y := .tmp 11) (cd := (cI .i64)) (j := 1) (b := b1) (o := 0) a0.V (pend2 := []) Ty3 rfl (At_api_IP_V a0) rfl ?_
  refine OJ.go 1 [(13, .pointer (some (pt b2 0)))] <| OJ.kld (d := 14) (y := .tmp 13) (cd := (cI .i64)) (j := 0) (b := b2) (o := 0) a1.V (pend2 := []) Ty3 rfl (At_api_IP_V a1) rfl ?_
  exact OJ.go 2 [(4, .bool (decide (a0.V < a1.V))), (15, .bool (decide (a0.V < a1.V)))] <| OJ.nil <| SJ.r1 (.bool (decide (a0.V < a1.V))) rfl rfl
 ·exact SJ.skip <| SJ.seq <| SJ.sr 1 <| OJ.go 1 [(16, .int .i64 0)] <| OJ.nil <| SJ.block (id := 0) <| SJ.loop (fun s_ : Int => [(2, .pointer (some (pt b1 0))), (3, .pointer (some (pt b2 0))), (16, .int .i64 s_)]) (fun s_ : Int => [(b2, c_api_IP.enc a1), (b1, c_api_IP.enc a0)]) [2, 3, 16] rfl (fun _ _ => rfl) (fun s_ => addr_Less.L1_ok a0 a1 b1 b2 s_)

/-! ### weir/weirref4.Less: function 55 -/
noncomputable def r4_Less.B : Code := (Tryz.f55.body).getD .skip
noncomputable def r4_Less.cx : Fx := ⟨Tryz.prog, 55, Tryz.f55⟩
noncomputable def r4_Less.out (r_ : Bool) : Value := .bool r_
noncomputable def r4_Less.F0 (r_ : Bool) : Reach := .ret (r4_Less.out r_)
noncomputable def r4_Less.F1 (a0 : api_IP) (a1 : api_IP) (b1 : Nat) (b2 : Nat) : (LS Int Bool) → Reach := loopF [.inLoop (c1 (c1 (c2 (c1 (c2 (c2 r4_Less.B)))))), .inBlock 0, .code (c2 (c2 (c2 r4_Less.B)))] (fun s_ : Int => [(2, .pointer (some (pt b1 0))), (3, .pointer (some (pt b2 0))), (5, .int .i64 s_)]) (fun s_ : Int => [(b2, c_api_IP.enc a1), (b1, c_api_IP.enc a0)]) r4_Less.F0
noncomputable def r4_Less.L1 (a0 : api_IP) (a1 : api_IP) (s3 : Int) : M (LS Int Bool) :=
 if s3 < 16 then
  draw >>= fun _ =>
  chk ((0 : Int) ≤ s3 ∧ s3 < (16 : Nat)) >>= fun _ =>
  chk ((0 : Int) ≤ s3 ∧ s3 < (16 : Nat)) >>= fun _ =>
  if (Vec.g a0.A s3 0) ≠ (Vec.g a1.A s3 0) then
   draw >>= fun _ =>
   chk ((0 : Int) ≤ s3 ∧ s3 < (16 : Nat)) >>= fun _ =>
   chk ((0 : Int) ≤ s3 ∧ s3 < (16 : Nat)) >>= fun _ =>
   pure (LS.done (decide ((Vec.g a0.A s3 0) < (Vec.g a1.A s3 0))))
  else
   pure (LS.next (IntKind.wrap .i64 (s3 + 1)))
 else
  pure (LS.done false)
theorem r4_Less.L1_ok (a0 : api_IP) (a1 : api_IP) (b1 : Nat) (b2 : Nat) (s3 : Int) :
  SJ r4_Less.cx [.code (c1 (c1 (c2 (c1 (c2 (c2 r4_Less.B)))))), .inLoop (c1 (c1 (c2 (c1 (c2 (c2 r4_Less.B)))))), .inBlock 0, .code (c2 (c2 (c2 r4_Less.B)))] [(2, .pointer (some (pt b1 0))), (3, .pointer (some (pt b2 0))), (5, .int .i64 s3)] [(b2, c_api_IP.enc a1), (b1, c_api_IP.enc a0)] (r4_Less.L1 a0 a1 s3) (r4_Less.F1 a0 a1 b1 b2) := by
 unfold r4_Less.L1
 refine SJ.seq <| SJ.sr 2 <| OJ.go 2 [(17, .bool (decide (s3 < 16))), (16, .int .i64 s3)] <| OJ.nil <| SJ.cond (t := (.tmp 17)) (b := decide (s3 < 16)) decide_eq_true_iff (fun hc31 => ?_) (fun hc31 => ?_)
 ·refine SJ.skip <| SJ.seq <| SJ.block (id := 1) <| SJ.seq <| SJ.draw (id := 6) (kd := [0, 0, 0, 1, 0, 0, 0, 1, 0]) (bef := [0, 0, 3, 7, 0, 0, 48, 112, 255]) (ord := [0, 1, 2, 3, 4, 5, 6, 7, 8]) mixed ?_
  refine OJ.go 2 [(21, .pointer (some (pt b1 1))), (20, .int .i64 s3)] <| OJ.idxK (d := 22) (T := 26) (y := .tmp 21) (j := .tmp 20) (E := 5) (sz := 1) (b := b1) (o := 1) (k := .i64) (fun hb18 hb19 => ?_)
  refine OJ.kld (d := 23) (y := .tmp 22) (cd := (cI .u8)) (j := 1) (b := b1) (o := (1 + s3.toNat * 1)) (Vec.g a0.A s3 0) (pend2 := [⟨3, 5, (pt b1 (1 + s3.toNat * 1)), (cI .u8).val (Vec.g a0.A s3 0)⟩]) Ty5 rfl (At.trans (At_api_IP_A a0) (At.arr (z := 0) hb18 hb19)) rfl ?_
  refine OJ.go 2 [(25, .pointer (some (pt b2 1))), (24, .int .i64 s3)] <| OJ.idxK (d := 26) (T := 26) (y := .tmp 25) (j := .tmp 24) (E := 5) (sz := 1) (b := b2) (o := 1) (k := .i64) (fun hb20 hb21 => ?_)
  refine OJ.kld (d := 27) (y := .tmp 26) (cd := (cI .u8)) (j := 0) (b := b2) (o := (1 + s3.toNat * 1)) (Vec.g a1.A s3 0) (pend2 := [⟨7, 5, (pt b2 (1 + s3.toNat * 1)), (cI .u8).val (Vec.g a1.A s3 0)⟩, ⟨3, 5, (pt b1 (1 + s3.toNat * 1)), (cI .u8).val (Vec.g a0.A s3 0)⟩]) Ty5 rfl (At.trans (At_api_IP_A a1) (At.arr (z := 0) hb20 hb21)) rfl ?_
  refine OJ.go 1 [(28, .bool ((Vec.g a0.A s3 0) != (Vec.g a1.A s3 0)))] <| OJ.nil <| SJ.cond (t := (.tmp 28)) (b := ((Vec.g a0.A s3 0) != (Vec.g a1.A s3 0))) bne_iff_ne (fun hc30 => ?_) (fun hc30 => ?_)
  ·refine SJ.seq <| SJ.draw (id := 7) (kd := [0, 0, 0, 1, 0, 0, 0, 1, 0, 0]) (bef := [0, 0, 3, 7, 0, 0, 48, 112, 255, 511]) (ord := [0, 1, 2, 3, 4, 5, 6, 7, 8, 9]) mixed ?_
   refine OJ.go 2 [(30, .pointer (some (pt b1 1))), (29, .int .i64 s3)] <| OJ.idxK (d := 31) (T := 26) (y := .tmp 30) (j := .tmp 29) (E := 5) (sz := 1) (b := b1) (o := 1) (k := .i64) (fun hb26 hb27 => ?_)
   refine OJ.kld (d := 32) (y := .tmp 31) (cd := (cI .u8)) (j := 1) (b := b1) (o := (1 + s3.toNat * 1)) (Vec.g a0.A s3 0) (pend2 := [⟨3, 5, (pt b1 (1 + s3.toNat * 1)), (cI .u8).val (Vec.g a0.A s3 0)⟩]) Ty5 rfl (At.trans (At_api_IP_A a0) (At.arr (z := 0) hb26 hb27)) rfl ?_
   refine OJ.go 2 [(34, .pointer (some (pt b2 1))), (33, .int .i64 s3)] <| OJ.idxK (d := 35) (T := 26) (y := .tmp 34) (j := .tmp 33) (E := 5) (sz := 1) (b := b2) (o := 1) (k := .i64) (fun hb28 hb29 => ?_)
   refine OJ.kld (d := 36) (y := .tmp 35) (cd := (cI .u8)) (j := 0) (b := b2) (o := (1 + s3.toNat * 1)) (Vec.g a1.A s3 0) (pend2 := [⟨7, 5, (pt b2 (1 + s3.toNat * 1)), (cI .u8).val (Vec.g a1.A s3 0)⟩, ⟨3, 5, (pt b1 (1 + s3.toNat * 1)), (cI .u8).val (Vec.g a0.A s3 0)⟩]) Ty5 rfl (At.trans (At_api_IP_A a1) (At.arr (z := 0) hb28 hb29)) rfl ?_
   exact OJ.go 2 [(4, .bool (decide ((Vec.g a0.A s3 0) < (Vec.g a1.A s3 0)))), (37, .bool (decide ((Vec.g a0.A s3 0) < (Vec.g a1.A s3 0))))] <| OJ.nil <| SJ.r1 (.bool (decide ((Vec.g a0.A s3 0) < (Vec.g a1.A s3 0)))) rfl rfl
  ·exact SJ.skip <| SJ.inBlock <| SJ.rg 3 <| OJ.go 3 [(5, .int .i64 (IntKind.wrap .i64 (s3 + 1))), (19, .int .i64 (IntKind.wrap .i64 (s3 + 1))), (18, .int .i64 s3)] <| OJ.nil <| SJ.at_ [2, 3, 5] rfl
 ·exact SJ.exit (id := 0) (by rfl) <| SJ.sr 1 <| OJ.go 1 [(4, .bool false)] <| OJ.nil <| SJ.r1 (.bool false) rfl rfl
noncomputable def r4_Less (a0 : api_IP) (a1 : api_IP) : M Bool :=
 slot 28 >>= fun b1 =>
 slot 28 >>= fun b2 =>
 if a0.V ≠ a1.V then
  pure (decide (a0.V < a1.V))
 else
  loopM (fun s_ : Int => r4_Less.L1 a0 a1 s_) 0
theorem r4_Less_ok (a0 : api_IP) (a1 : api_IP) : Ref Tryz.prog 55 [c_api_IP.val a0, c_api_IP.val a1] (r4_Less a0 a1) r4_Less.out := by
 refine Ref.of (cd := r4_Less.B) Tryz.func55 ?_
 show SJ r4_Less.cx [.code r4_Less.B] [(0, c_api_IP.val a0), (1, c_api_IP.val a1)] [] (r4_Less a0 a1) r4_Less.F0
 unfold r4_Less
 refine SJ.sr 3 <| OJ.slotOf (d := 2) (op := (.box 28 (.tmp 0))) (cd := c_api_IP) (u := a0) (owed := []) (box_run (by kernel_rfl)) (fun b1 => ?_)
 refine OW.nil <| OJ.slotOf (d := 3) (op := (.box 28 (.tmp 1))) (cd := c_api_IP) (u := a1) (owed := []) (box_run (by kernel_rfl)) (fun b2 => ?_)
 refine OW.nil <| OJ.go 1 [(4, .bool false)] <| OJ.nil <| SJ.seq <| SJ.sr 5 <| OJ.go 1 [(6, .pointer (some (pt b1 0)))] <| OJ.kld (d := 7) (y := .tmp 6) (cd := (cI .i64)) (j := 1) (b := b1) (o := 0) a0.V (pend2 := []) Ty3 rfl (At_api_IP_V a0) rfl ?_
 refine OJ.go 1 [(8, .pointer (some (pt b2 0)))] <| OJ.kld (d := 9) (y := .tmp 8) (cd := (cI .i64)) (j := 0) (b := b2) (o := 0) a1.V (pend2 := []) Ty3 rfl (At_api_IP_V a1) rfl ?_
 refine OJ.go 1 [(10, .bool (a0.V != a1.V))] <| OJ.nil <| SJ.cond (t := (.tmp 10)) (b := (a0.V != a1.V)) bne_iff_ne (fun hc32 => ?_) (fun hc32 => ?_)
 ·refine SJ.sr 6 <| OJ.go 1 [(11, .pointer (some (pt b1 0)))] <| OJ.kld (d := 12) (y := .tmp 11) (cd := (cI .i64)) (j := 1) (b := b1) (o := 0) a0.V (pend2 := []) Ty3 rfl (At_api_IP_V a0) rfl ?_
  refine OJ.go 1 [(13, .pointer (some (pt b2 0)))] <| OJ.kld (d := 14) (y := .tmp 13) (cd := (cI .i64)) (j := 0) (b := b2) (o := 0) a1.V (pend2 := []) Ty3 rfl (At_api_IP_V a1) rfl ?_
  exact OJ.go 2 [(4, .bool (decide (a0.V < a1.V))), (15, .bool (decide (a0.V < a1.V)))] <| OJ.nil <| SJ.r1 (.bool (decide (a0.V < a1.V))) rfl rfl
 ·exact SJ.skip <| SJ.seq <| SJ.sr 1 <| OJ.go 1 [(5, .int .i64 0)] <| OJ.nil <| SJ.block (id := 0) <| SJ.loop (fun s_ : Int => [(2, .pointer (some (pt b1 0))), (3, .pointer (some (pt b2 0))), (5, .int .i64 s_)]) (fun s_ : Int => [(b2, c_api_IP.enc a1), (b1, c_api_IP.enc a0)]) [2, 3, 5] rfl (fun _ _ => rfl) (fun s_ => r4_Less.L1_ok a0 a1 b1 b2 s_)

/-! ### weir/weirlaw4.known: function 23 -/
noncomputable def l4_known.B : Code := (Tryz.f23.body).getD .skip
noncomputable def l4_known.cx : Fx := ⟨Tryz.prog, 23, Tryz.f23⟩
noncomputable def l4_known.out (r_ : Bool) : Value := .bool r_
noncomputable def l4_known.F0 (r_ : Bool) : Reach := .ret (l4_known.out r_)
noncomputable def l4_known (a0 : l4_Op) : M Bool :=
 slot 42 >>= fun b1 =>
 if a0.Kind = 7 then
  addr_Valid a0.A >>= fun r97 =>
  r4_Valid a0.A >>= fun r98 =>
  pure (r97 == r98)
 else
  if a0.Kind = 8 then
   addr_ValidPrefix a0.P >>= fun r145 =>
   r4_ValidPrefix a0.P >>= fun r146 =>
   l4_num r145 >>= fun r147 =>
   pure (r147 == r146)
  else
   if a0.Kind = 9 then
    addr_Mask a0.A a0.N >>= fun r169 =>
    slot 28 >>= fun b170 =>
    r4_Mask a0.A a0.N >>= fun r171 =>
    slot 28 >>= fun b172 =>
    (if r169.1 = r171.1 then
      l4_num r169.2 >>= fun r173 =>
      pure (r173 == r171.2)
     else
      pure false) >>= fun y174 =>
    pure y174
   else
    if a0.Kind = 10 then
     addr_Contains a0.P a0.A >>= fun r182 =>
     r4_Contains a0.P a0.A >>= fun r183 =>
     pure (r182 == r183)
    else
     if a0.Kind = 11 then
      addr_Class a0.A >>= fun r186 =>
      r4_Class a0.A >>= fun r187 =>
      pure (r186 == r187)
     else
      addr_Less a0.A a0.B >>= fun r188 =>
      r4_Less a0.A a0.B >>= fun r189 =>
      pure (r188 == r189)
theorem l4_known_ok (a0 : l4_Op) : Ref Tryz.prog 23 [c_weirlaw4_Op.val a0] (l4_known a0) l4_known.out := by
 refine Ref.of (cd := l4_known.B) Tryz.func23 ?_
 show SJ l4_known.cx [.code l4_known.B] [(0, c_weirlaw4_Op.val a0)] [] (l4_known a0) l4_known.F0
 unfold l4_known
 refine SJ.sr 2 <| OJ.slotOf (d := 1) (op := (.box 42 (.tmp 0))) (cd := c_weirlaw4_Op) (u := a0) (owed := []) (box_run (by kernel_rfl)) (fun b1 => ?_)
 refine OW.nil <| OJ.go 1 [(2, .bool false)] <| OJ.nil <| SJ.seq <| SJ.sr 2 <| OJ.go 1 [(17, .pointer (some (pt b1 0)))] <| OJ.kld (d := 18) (y := .tmp 17) (cd := (cI .i64)) (j := 0) (b := b1) (o := 0) a0.Kind (pend2 := []) Ty3 rfl (At_weirlaw4_Op_Kind a0) rfl ?_
 refine OJ.nil <| SJ.block (id := 0) <| SJ.sr 2 <| OJ.go 2 [(19, .bool (a0.Kind == 7)), (20, .bool (a0.Kind == 7))] <| OJ.nil <| SJ.cond (t := (.tmp 19)) (b := (a0.Kind == 7)) beq_iff_eq (fun hc194 => ?_) (fun hc194 => ?_)
 ·refine SJ.sr 4 <| OJ.go 1 [(21, .pointer (some (pt b1 2)))] <| OJ.kld (d := 22) (y := .tmp 21) (cd := c_api_IP) (j := 0) (b := b1) (o := 2) a0.A (pend2 := []) Ty28 rfl (At_weirlaw4_Op_A a0) rfl ?_
  refine OJ.call (d := 23) (g := 16) (ats := #[28]) (args := [.tmp 22]) (owed := []) F16 (addr_Valid_ok a0.A) (fun r97 => ?_)
  refine OW.nil <| OJ.go 1 [(3, .bool r97)] <| OJ.nil <| SJ.sr 4 <| OJ.go 1 [(24, .pointer (some (pt b1 2)))] <| OJ.kld (d := 25) (y := .tmp 24) (cd := c_api_IP) (j := 0) (b := b1) (o := 2) a0.A (pend2 := []) Ty28 rfl (At_weirlaw4_Op_A a0) rfl ?_
  refine OJ.call (d := 26) (g := 46) (ats := #[28]) (args := [.tmp 25]) (owed := []) F46 (r4_Valid_ok a0.A) (fun r98 => ?_)
  exact OW.nil <| OJ.go 1 [(4, .bool r98)] <| OJ.nil <| SJ.sr 4 <| OJ.go 4 [(2, .bool (r97 == r98)), (29, .bool (r97 == r98)), (28, .bool r98), (27, .bool r97)] <| OJ.nil <| SJ.r1 (.bool (r97 == r98)) rfl rfl
 ·refine SJ.sr 2 <| OJ.go 2 [(30, .bool (a0.Kind == 8)), (31, .bool (a0.Kind == 8))] <| OJ.nil <| SJ.cond (t := (.tmp 30)) (b := (a0.Kind == 8)) beq_iff_eq (fun hc193 => ?_) (fun hc193 => ?_)
  ·refine SJ.sr 4 <| OJ.go 1 [(32, .pointer (some (pt b1 36)))] <| OJ.kld (d := 33) (y := .tmp 32) (cd := c_api_Prefix) (j := 0) (b := b1) (o := 36) a0.P (pend2 := []) Ty38 rfl (At_weirlaw4_Op_P a0) rfl ?_
   refine OJ.call (d := 34) (g := 47) (ats := #[38]) (args := [.tmp 33]) (owed := []) F47 (addr_ValidPrefix_ok a0.P) (fun r145 => ?_)
   refine OW.nil <| OJ.go 1 [(5, .int .i64 r145)] <| OJ.nil <| SJ.sr 4 <| OJ.go 1 [(35, .pointer (some (pt b1 36)))] <| OJ.kld (d := 36) (y := .tmp 35) (cd := c_api_Prefix) (j := 0) (b := b1) (o := 36) a0.P (pend2 := []) Ty38 rfl (At_weirlaw4_Op_P a0) rfl ?_
   refine OJ.call (d := 37) (g := 48) (ats := #[38]) (args := [.tmp 36]) (owed := []) F48 (r4_ValidPrefix_ok a0.P) (fun r146 => ?_)
   refine OW.nil <| OJ.go 1 [(6, .int .i64 r146)] <| OJ.nil <| SJ.sr 5 <| OJ.go 1 [(38, .int .i64 r145)] <| OJ.call (d := 39) (g := 13) (ats := #[29]) (args := [.tmp 38]) (owed := []) F13 (l4_num_ok r145) (fun r147 => ?_)
   exact OW.nil <| OJ.go 3 [(2, .bool (r147 == r146)), (41, .bool (r147 == r146)), (40, .int .i64 r146)] <| OJ.nil <| SJ.r1 (.bool (r147 == r146)) rfl rfl
  ·refine SJ.sr 2 <| OJ.go 2 [(42, .bool (a0.Kind == 9)), (43, .bool (a0.Kind == 9))] <| OJ.nil <| SJ.cond (t := (.tmp 42)) (b := (a0.Kind == 9)) beq_iff_eq (fun hc192 => ?_) (fun hc192 => ?_)
   ·refine SJ.sr 11 <| OJ.go 1 [(45, .pointer (some (pt b1 2)))] <| OJ.kld (d := 46) (y := .tmp 45) (cd := c_api_IP) (j := 0) (b := b1) (o := 2) a0.A (pend2 := []) Ty28 rfl (At_weirlaw4_Op_A a0) rfl ?_
    refine OJ.go 1 [(47, .pointer (some (pt b1 60)))] <| OJ.kld (d := 48) (y := .tmp 47) (cd := (cI .i64)) (j := 0) (b := b1) (o := 60) a0.N (pend2 := []) Ty3 rfl (At_weirlaw4_Op_N a0) rfl ?_
    refine OJ.call (d := 49) (g := 49) (ats := #[28, 3]) (args := [.tmp 46, .tmp 48]) (owed := []) F49 (addr_Mask_ok a0.A a0.N) (fun r169 => ?_)
    refine OW.nil <| OJ.go 3 [(51, .int .i64 r169.2), (50, c_api_IP.val r169.1), (44, .tuple #[c_api_IP.val r169.1, .int .i64 r169.2])] <| OJ.slotOf (d := 7) (op := (.alloc 28)) (cd := c_api_IP) (u := z_api_IP) (owed := []) (alloc_run Ty28) (fun b170 => ?_)
    refine OW.nil <| OJ.kst (y := .tmp 7) (z := .tmp 50) (cd := c_api_IP) (u := r169.1) (j := 0) (b := b170) (o := 0) (c_api_IP.enc r169.1) (owed := []) Ty28 rfl (Upd.whole ((Cod.len _ _).trans (Cod.len _ _).symm)) rfl ?_
    refine OW.nil <| OJ.go 1 [(8, .int .i64 r169.2)] <| OJ.nil <| SJ.sr 11 <| OJ.go 1 [(53, .pointer (some (pt b1 2)))] <| OJ.kld (d := 54) (y := .tmp 53) (cd := c_api_IP) (j := 1) (b := b1) (o := 2) a0.A (pend2 := []) Ty28 rfl (At_weirlaw4_Op_A a0) rfl ?_
    refine OJ.go 1 [(55, .pointer (some (pt b1 60)))] <| OJ.kld (d := 56) (y := .tmp 55) (cd := (cI .i64)) (j := 1) (b := b1) (o := 60) a0.N (pend2 := []) Ty3 rfl (At_weirlaw4_Op_N a0) rfl ?_
    refine OJ.call (d := 57) (g := 50) (ats := #[28, 3]) (args := [.tmp 54, .tmp 56]) (owed := []) F50 (r4_Mask_ok a0.A a0.N) (fun r171 => ?_)
    refine OW.nil <| OJ.go 3 [(59, .int .i64 r171.2), (58, c_api_IP.val r171.1), (52, .tuple #[c_api_IP.val r171.1, .int .i64 r171.2])] <| OJ.slotOf (d := 9) (op := (.alloc 28)) (cd := c_api_IP) (u := z_api_IP) (owed := []) (alloc_run Ty28) (fun b172 => ?_)
    refine OW.nil <| OJ.kst (y := .tmp 9) (z := .tmp 58) (cd := c_api_IP) (u := r171.1) (j := 0) (b := b172) (o := 0) (c_api_IP.enc r171.1) (owed := []) Ty28 rfl (Upd.whole ((Cod.len _ _).trans (Cod.len _ _).symm)) rfl ?_
    refine OW.nil <| OJ.go 1 [(10, .int .i64 r171.2)] <| OJ.nil <| SJ.sr 10 <| OJ.kld (d := 60) (y := .tmp 7) (cd := c_api_IP) (j := 1) (b := b170) (o := 0) r169.1 (pend2 := []) Ty28 rfl (At.whole _) rfl ?_
    refine OJ.kld (d := 61) (y := .tmp 9) (cd := c_api_IP) (j := 0) (b := b172) (o := 0) r171.1 (pend2 := []) Ty28 rfl (At.whole _) rfl ?_
    refine OJ.eql (d := 62) (T := 28) (yT := 28) (y := .tmp 60) (z := .tmp 61) (cd := c_api_IP) (p := r169.1) (q := r171.1) rfl Eq28 ?_
    refine OJ.go 1 [(63, .bool (eqv r169.1 r171.1))] <| OJ.join (b := (eqv r169.1 r171.1)) [4, 5, 6, 7, 8] [9] [68] (fun y174 => [(68, .bool y174)]) [] [] (t := 63) eqv_iff (fun hp_ => ?_) (fun hp_ => ?_) (fun _ _ _ _ _ _ h_ => h_) (fun y174 => ?_)
    ·refine OJ.go 1 [(64, .int .i64 r169.2)] <| OJ.call (d := 65) (g := 13) (ats := #[29]) (args := [.tmp 64]) (owed := []) F13 (l4_num_ok r169.2) (fun r173 => ?_)
     exact OW.nil <| OJ.go 3 [(68, .bool (r173 == r171.2)), (67, .bool (r173 == r171.2)), (66, .int .i64 r171.2)] <| OJ.x0
    ·exact OJ.go 5 [(68, .bool false), (67, undef), (66, undef), (65, undef), (64, undef)] <| OJ.x0
    ·exact OJ.go 1 [(2, .bool y174)] <| OJ.nil <| SJ.r1 (.bool y174) rfl rfl
   ·refine SJ.sr 2 <| OJ.go 2 [(69, .bool (a0.Kind == 10)), (70, .bool (a0.Kind == 10))] <| OJ.nil <| SJ.cond (t := (.tmp 69)) (b := (a0.Kind == 10)) beq_iff_eq (fun hc191 => ?_) (fun hc191 => ?_)
    ·refine SJ.sr 6 <| OJ.go 1 [(71, .pointer (some (pt b1 36)))] <| OJ.kld (d := 72) (y := .tmp 71) (cd := c_api_Prefix) (j := 0) (b := b1) (o := 36) a0.P (pend2 := []) Ty38 rfl (At_weirlaw4_Op_P a0) rfl ?_
     refine OJ.go 1 [(73, .pointer (some (pt b1 2)))] <| OJ.kld (d := 74) (y := .tmp 73) (cd := c_api_IP) (j := 0) (b := b1) (o := 2) a0.A (pend2 := []) Ty28 rfl (At_weirlaw4_Op_A a0) rfl ?_
     refine OJ.call (d := 75) (g := 51) (ats := #[38, 28]) (args := [.tmp 72, .tmp 74]) (owed := []) F51 (addr_Contains_ok a0.P a0.A) (fun r182 => ?_)
     refine OW.nil <| OJ.go 1 [(11, .bool r182)] <| OJ.nil <| SJ.sr 6 <| OJ.go 1 [(76, .pointer (some (pt b1 36)))] <| OJ.kld (d := 77) (y := .tmp 76) (cd := c_api_Prefix) (j := 0) (b := b1) (o := 36) a0.P (pend2 := []) Ty38 rfl (At_weirlaw4_Op_P a0) rfl ?_
     refine OJ.go 1 [(78, .pointer (some (pt b1 2)))] <| OJ.kld (d := 79) (y := .tmp 78) (cd := c_api_IP) (j := 0) (b := b1) (o := 2) a0.A (pend2 := []) Ty28 rfl (At_weirlaw4_Op_A a0) rfl ?_
     refine OJ.call (d := 80) (g := 52) (ats := #[38, 28]) (args := [.tmp 77, .tmp 79]) (owed := []) F52 (r4_Contains_ok a0.P a0.A) (fun r183 => ?_)
     exact OW.nil <| OJ.go 1 [(12, .bool r183)] <| OJ.nil <| SJ.sr 4 <| OJ.go 4 [(2, .bool (r182 == r183)), (83, .bool (r182 == r183)), (82, .bool r183), (81, .bool r182)] <| OJ.nil <| SJ.r1 (.bool (r182 == r183)) rfl rfl
    ·refine SJ.sr 2 <| OJ.go 2 [(84, .bool (a0.Kind == 11)), (85, .bool (a0.Kind == 11))] <| OJ.nil <| SJ.cond (t := (.tmp 84)) (b := (a0.Kind == 11)) beq_iff_eq (fun hc190 => ?_) (fun hc190 => ?_)
     ·refine SJ.sr 4 <| OJ.go 1 [(86, .pointer (some (pt b1 2)))] <| OJ.kld (d := 87) (y := .tmp 86) (cd := c_api_IP) (j := 0) (b := b1) (o := 2) a0.A (pend2 := []) Ty28 rfl (At_weirlaw4_Op_A a0) rfl ?_
      refine OJ.call (d := 88) (g := 12) (ats := #[28]) (args := [.tmp 87]) (owed := []) F12 (addr_Class_ok a0.A) (fun r186 => ?_)
      refine OW.nil <| OJ.go 1 [(13, .int .i64 r186)] <| OJ.nil <| SJ.sr 4 <| OJ.go 1 [(89, .pointer (some (pt b1 2)))] <| OJ.kld (d := 90) (y := .tmp 89) (cd := c_api_IP) (j := 0) (b := b1) (o := 2) a0.A (pend2 := []) Ty28 rfl (At_weirlaw4_Op_A a0) rfl ?_
      refine OJ.call (d := 91) (g := 53) (ats := #[28]) (args := [.tmp 90]) (owed := []) F53 (r4_Class_ok a0.A) (fun r187 => ?_)
      exact OW.nil <| OJ.go 1 [(14, .int .i64 r187)] <| OJ.nil <| SJ.sr 4 <| OJ.go 4 [(2, .bool (r186 == r187)), (94, .bool (r186 == r187)), (93, .int .i64 r187), (92, .int .i64 r186)] <| OJ.nil <| SJ.r1 (.bool (r186 == r187)) rfl rfl
     ·refine SJ.skip <| SJ.inBlock <| SJ.sr 6 <| OJ.go 1 [(95, .pointer (some (pt b1 2)))] <| OJ.kld (d := 96) (y := .tmp 95) (cd := c_api_IP) (j := 0) (b := b1) (o := 2) a0.A (pend2 := []) Ty28 rfl (At_weirlaw4_Op_A a0) rfl ?_
      refine OJ.go 1 [(97, .pointer (some (pt b1 19)))] <| OJ.kld (d := 98) (y := .tmp 97) (cd := c_api_IP) (j := 0) (b := b1) (o := 19) a0.B (pend2 := []) Ty28 rfl (At_weirlaw4_Op_B a0) rfl ?_
      refine OJ.call (d := 99) (g := 54) (ats := #[28, 28]) (args := [.tmp 96, .tmp 98]) (owed := []) F54 (addr_Less_ok a0.A a0.B) (fun r188 => ?_)
      refine OW.nil <| OJ.go 1 [(15, .bool r188)] <| OJ.nil <| SJ.sr 6 <| OJ.go 1 [(100, .pointer (some (pt b1 2)))] <| OJ.kld (d := 101) (y := .tmp 100) (cd := c_api_IP) (j := 0) (b := b1) (o := 2) a0.A (pend2 := []) Ty28 rfl (At_weirlaw4_Op_A a0) rfl ?_
      refine OJ.go 1 [(102, .pointer (some (pt b1 19)))] <| OJ.kld (d := 103) (y := .tmp 102) (cd := c_api_IP) (j := 0) (b := b1) (o := 19) a0.B (pend2 := []) Ty28 rfl (At_weirlaw4_Op_B a0) rfl ?_
      refine OJ.call (d := 104) (g := 55) (ats := #[28, 28]) (args := [.tmp 101, .tmp 103]) (owed := []) F55 (r4_Less_ok a0.A a0.B) (fun r189 => ?_)
      exact OW.nil <| OJ.go 1 [(16, .bool r189)] <| OJ.nil <| SJ.sr 4 <| OJ.go 4 [(2, .bool (r188 == r189)), (107, .bool (r188 == r189)), (106, .bool r189), (105, .bool r188)] <| OJ.nil <| SJ.r1 (.bool (r188 == r189)) rfl rfl
end Go.Proofs.YtddmmgcfanpmmaaGreatDoor.Lx
