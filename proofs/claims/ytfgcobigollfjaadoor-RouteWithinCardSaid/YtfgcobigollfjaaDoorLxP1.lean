/- Programs of the M-world for Go functions, each with the proof that the Go text does what it says. Printed by lxgen.py. -/
import Derived.Test.YtfgcobigollfjaaDoorLxT
import Derived.Test.YtfgcobigollfjaaDoorLxP0
set_option linter.unusedVariables false
set_option linter.unusedSimpArgs false
set_option linter.unusedSectionVars false
namespace Go.Proofs.YtfgcobigollfjaaDoor.Lx
open Go Go.Proofs
variable [Loops]
/-! ### (*weir/weirref4.six).group: function 95 -/
noncomputable def weirref4_six_group.B : Code := (Tryd.f95.body).getD .skip
noncomputable def weirref4_six_group.cx : Fx := ⟨Tryd.prog, 95, Tryd.f95, none⟩
noncomputable def weirref4_six_group.out (r_ : Bool) : Value := .bool r_
noncomputable def weirref4_six_group.F0 (r_ : Bool) : Reach := .ret (weirref4_six_group.out r_)
noncomputable def weirref4_six_group.K1 (a0 : (Option Addr)) (s3 : Int) (s4 : Int) (y50 : Bool) (j51 : Int) : M Bool :=
 draw >>= fun _ =>
 nilck a0 >>= fun p52 =>
 ld cL (Addr.add p52 1) >>= fun x53 =>
 weirref4_six_room a0 >>= fun r54 =>
 same cL (Addr.add p52 1) x53 >>= fun _ =>
 if (IntKind.wrap .i64 ((x53.len : Int) + j51)) > r54 then
  nilck a0 >>= fun p58 =>
  ld (cI .i64) (Addr.add p58 3) >>= fun x59 =>
  weirref4_six_fail a0 44 x59 >>= fun r60 =>
  pure true
 else
  if y50 = true then
   draw >>= fun _ =>
   nilck a0 >>= fun p85 =>
   ld cS p85 >>= fun x86 =>
   nilck a0 >>= fun p87 =>
   ld (cI .i64) (Addr.add p87 3) >>= fun x88 =>
   weirref4_dotted x86 x88 >>= fun r89 =>
   if r89.2.1 ≠ 0 then
    weirref4_six_fail a0 r89.2.1 r89.2.2 >>= fun r91 =>
    pure true
   else
    draw >>= fun _ =>
    nilck a0 >>= fun p92 =>
    ld cL (Addr.add p92 1) >>= fun x93 =>
    idx r89.1.a r89.1.len 0 1 >>= fun p94 =>
    ld (cI .u8) p94 >>= fun x95 =>
    idx r89.1.a r89.1.len 1 1 >>= fun p96 =>
    ld (cI .u8) p96 >>= fun x97 =>
    idx r89.1.a r89.1.len 2 1 >>= fun p98 =>
    ld (cI .u8) p98 >>= fun x99 =>
    idx r89.1.a r89.1.len 3 1 >>= fun p100 =>
    ld (cI .u8) p100 >>= fun x101 =>
    slot 3 >>= fun b102 =>
    same cL (Addr.add p92 1) x93 >>= fun _ =>
    appl (cI .i64) 3 8 0 x93 [IntKind.wrap .i64 ((IntKind.wrap .i64 (256 * (IntKind.wrap .i64 x95))) + (IntKind.wrap .i64 x97)), IntKind.wrap .i64 ((IntKind.wrap .i64 (256 * (IntKind.wrap .i64 x99))) + (IntKind.wrap .i64 x101))] >>= fun r103 =>
    nilck a0 >>= fun p104 =>
    st cL (Addr.add p104 1) r103 >>= fun _ =>
    nilck a0 >>= fun p105 =>
    ld cS p105 >>= fun x106 =>
    nilck a0 >>= fun p107 =>
    st (cI .i64) (Addr.add p107 3) (x106.size : Int) >>= fun _ =>
    pure true
  else
   nilck a0 >>= fun p109 =>
   ld (cI .i64) (Addr.add p109 3) >>= fun x110 =>
   if (IntKind.wrap .i64 (s3 - x110)) > 4 then
    nilck a0 >>= fun p114 =>
    ld (cI .i64) (Addr.add p114 3) >>= fun x115 =>
    weirref4_six_fail a0 43 x115 >>= fun r116 =>
    pure true
   else
    nilck a0 >>= fun p117 =>
    ld cL (Addr.add p117 1) >>= fun x118 =>
    slot 3 >>= fun b119 =>
    appl (cI .i64) 3 8 0 x118 [s4] >>= fun r120 =>
    nilck a0 >>= fun p121 =>
    st cL (Addr.add p121 1) r120 >>= fun _ =>
    nilck a0 >>= fun p122 =>
    st (cI .i64) (Addr.add p122 3) s3 >>= fun _ =>
    nilck a0 >>= fun p123 =>
    ld cS p123 >>= fun x124 =>
    pure (s3 == (x124.size : Int))
theorem weirref4_six_group.K1_ok (a0 : (Option Addr)) (s3 : Int) (s4 : Int) (y50 : Bool) (j51 : Int) :
  SJ weirref4_six_group.cx [.code (c2 (c2 (c2 (c2 (c2 (c2 (c2 (c2 weirref4_six_group.B))))))))] [(0, .pointer a0), (3, .int .i64 s3), (4, .int .i64 s4), (7, .bool y50), (8, .int .i64 j51)] [] (weirref4_six_group.K1 a0 s3 s4 y50 j51) weirref4_six_group.F0 := by
 unfold weirref4_six_group.K1
 refine SJ.seq <| SJ.seq <| SJ.draw (id := 15) (kd := [0, 0, 0, 1, 0, 0, 0, 0, 2, 0]) (bef := [0, 1, 3, 7, 15, 0, 63, 0, 128, 511]) (ord := [0, 1, 2, 3, 4, 5, 6, 7, 8, 9]) mixed ?_
 refine OJ.go 1 [(98, .pointer a0)] <| OJ.nilck (d := 99) (y := .tmp 98) (fun p52 => ?_)
 refine OJ.go 1 [(100, .pointer (some (Addr.add p52 1)))] <| OJ.ld (d := 101) (y := .tmp 100) (pend2 := fun x53 => [⟨3, 73, (Addr.add p52 1), cL.val x53⟩]) Ty73 (fun _ => rfl) (fun x53 => ?_)
 refine OJ.go 4 [(105, .pointer a0), (104, .int .i64 (IntKind.wrap .i64 ((x53.len : Int) + j51))), (103, .int .i64 j51), (102, .int .i64 (x53.len : Int))] <| OJ.call (d := 106) (g := 99) (ats := #[154]) (args := [.tmp 105]) (owed := [⟨3, 73, (Addr.add p52 1), cL.val x53⟩]) F99 (weirref4_six_room_ok a0) (fun r54 => ?_)
 refine OW.same Ty73 ?_
 refine OW.nil <| OJ.go 1 [(107, .bool (decide ((IntKind.wrap .i64 ((x53.len : Int) + j51)) > r54)))] <| OJ.nil <| SJ.cond (t := (.tmp 107)) (b := decide ((IntKind.wrap .i64 ((x53.len : Int) + j51)) > r54)) decide_eq_true_iff (fun hc127 => ?_) (fun hc127 => ?_)
 ·refine SJ.sr 6 <| OJ.go 2 [(109, .pointer a0), (108, .pointer a0)] <| OJ.nilck (d := 110) (y := .tmp 109) (fun p58 => ?_)
  refine OJ.go 1 [(111, .pointer (some (Addr.add p58 3)))] <| OJ.ld (d := 112) (y := .tmp 111) (pend2 := fun x59 => []) Ty3 (fun _ => rfl) (fun x59 => ?_)
  refine OJ.call (d := 113) (g := 97) (ats := #[154, 3, 3]) (args := [.tmp 108, .const (.int .i64 44), .tmp 112]) (owed := []) F97 (weirref4_six_fail_ok a0 44 x59) (fun r60 => ?_)
  exact OW.nil <| OJ.nil <| SJ.sr 1 <| OJ.go 1 [(2, .bool true)] <| OJ.nil <| SJ.r1 (.bool true) rfl rfl
 ·refine SJ.skip <| SJ.seq <| SJ.sr 1 <| OJ.go 1 [(114, .bool y50)] <| OJ.nil <| SJ.cond (t := (.tmp 114)) (b := y50) Iff.rfl (fun hc126 => ?_) (fun hc126 => ?_)
  ·refine SJ.seq <| SJ.draw (id := 19) (kd := [0, 0, 0, 1, 0, 0, 0, 1, 2, 0, 0, 0, 0, 0, 0, 0]) (bef := [0, 1, 3, 7, 0, 16, 48, 112, 255, 511, 1023, 1023, 1023, 2047, 12287, 32767]) (ord := [0, 1, 2, 3, 4, 5, 6, 7, 8, 9, 10, 11, 12, 13, 14, 15]) mixed ?_
   refine OJ.go 1 [(116, .pointer a0)] <| OJ.nilck (d := 117) (y := .tmp 116) (fun p85 => ?_)
   refine OJ.go 1 [(118, .pointer (some p85))] <| OJ.ld (d := 119) (y := .tmp 118) (pend2 := fun x86 => [⟨3, 9, p85, cS.val x86⟩]) Ty9 (fun _ => rfl) (fun x86 => ?_)
   refine OJ.go 1 [(120, .pointer a0)] <| OJ.nilck (d := 121) (y := .tmp 120) (fun p87 => ?_)
   refine OJ.go 1 [(122, .pointer (some (Addr.add p87 3)))] <| OJ.ld (d := 123) (y := .tmp 122) (pend2 := fun x88 => [⟨7, 3, (Addr.add p87 3), (cI .i64).val x88⟩, ⟨3, 9, p85, cS.val x86⟩]) Ty3 (fun _ => rfl) (fun x88 => ?_)
   refine OJ.call (d := 124) (g := 92) (ats := #[9, 3]) (args := [.tmp 119, .tmp 123]) (owed := []) F92 (weirref4_dotted_ok x86 x88) (fun r89 => ?_)
   refine OW.nil <| OJ.go 7 [(11, .int .i64 r89.2.2), (10, .int .i64 r89.2.1), (9, Sl.v r89.1), (127, .int .i64 r89.2.2), (126, .int .i64 r89.2.1), (125, Sl.v r89.1), (115, .tuple #[Sl.v r89.1, .int .i64 r89.2.1, .int .i64 r89.2.2])] <| OJ.nil <| SJ.seq <| SJ.sr 2 <| OJ.go 2 [(129, .bool (r89.2.1 != 0)), (128, .int .i64 r89.2.1)] <| OJ.nil <| SJ.cond (t := (.tmp 129)) (b := (r89.2.1 != 0)) bne_iff_ne (fun hc108 => ?_) (fun hc108 => ?_)
   ·refine SJ.sr 4 <| OJ.go 3 [(132, .int .i64 r89.2.2), (131, .int .i64 r89.2.1), (130, .pointer a0)] <| OJ.call (d := 133) (g := 97) (ats := #[154, 3, 3]) (args := [.tmp 130, .tmp 131, .tmp 132]) (owed := []) F97 (weirref4_six_fail_ok a0 r89.2.1 r89.2.2) (fun r91 => ?_)
    exact OW.nil <| OJ.nil <| SJ.sr 1 <| OJ.go 1 [(2, .bool true)] <| OJ.nil <| SJ.r1 (.bool true) rfl rfl
   ·refine SJ.skip <| SJ.seq <| SJ.draw (id := 23) (kd := [0, 0, 0, 0, 1, 0, 0, 1, 0, 0, 0, 0, 1, 0, 0, 0, 0, 1, 0, 0, 0, 0, 1, 0, 0, 2, 2, 0, 0, 2]) (bef := [0, 0, 2, 6, 14, 0, 32, 96, 224, 480, 0, 1024, 3072, 7168, 16352, 0, 32768, 98304, 229376, 491520, 0, 1048576, 3145728, 7340032, 16744448, 33554400, 67108862, 134217727, 268435455, 536870911]) (ord := [0, 1, 2, 3, 4, 5, 6, 7, 8, 9, 10, 11, 12, 13, 14, 15, 16, 17, 18, 19, 20, 21, 22, 23, 24, 25, 26, 27, 28, 29]) mixed ?_
    refine OJ.go 2 [(135, .pointer a0), (134, .pointer a0)] <| OJ.nilck (d := 136) (y := .tmp 135) (fun p92 => ?_)
    refine OJ.go 1 [(137, .pointer (some (Addr.add p92 1)))] <| OJ.ld (d := 138) (y := .tmp 137) (pend2 := fun x93 => [⟨4, 73, (Addr.add p92 1), cL.val x93⟩]) Ty73 (fun _ => rfl) (fun x93 => ?_)
    refine OJ.go 1 [(139, Sl.v r89.1)] <| OJ.idxS (d := 140) (T := 114) (y := .tmp 139) (j := .const (.int .i64 0)) (E := 5) (cap := r89.1.cap) (k := .i64) (fun p94 => ?_)
    refine OJ.ld (d := 141) (y := .tmp 140) (pend2 := fun x95 => [⟨7, 5, p94, (cI .u8).val x95⟩, ⟨4, 73, (Addr.add p92 1), cL.val x93⟩]) Ty5 (fun _ => rfl) (fun x95 => ?_)
    refine OJ.go 3 [(144, Sl.v r89.1), (143, .int .i64 (IntKind.wrap .i64 (256 * (IntKind.wrap .i64 x95)))), (142, .int .i64 (IntKind.wrap .i64 x95))] <| OJ.idxS (d := 145) (T := 114) (y := .tmp 144) (j := .const (.int .i64 1)) (E := 5) (cap := r89.1.cap) (k := .i64) (fun p96 => ?_)
    refine OJ.ld (d := 146) (y := .tmp 145) (pend2 := fun x97 => [⟨12, 5, p96, (cI .u8).val x97⟩, ⟨7, 5, p94, (cI .u8).val x95⟩, ⟨4, 73, (Addr.add p92 1), cL.val x93⟩]) Ty5 (fun _ => rfl) (fun x97 => ?_)
    refine OJ.go 3 [(149, Sl.v r89.1), (148, .int .i64 (IntKind.wrap .i64 ((IntKind.wrap .i64 (256 * (IntKind.wrap .i64 x95))) + (IntKind.wrap .i64 x97)))), (147, .int .i64 (IntKind.wrap .i64 x97))] <| OJ.idxS (d := 150) (T := 114) (y := .tmp 149) (j := .const (.int .i64 2)) (E := 5) (cap := r89.1.cap) (k := .i64) (fun p98 => ?_)
    refine OJ.ld (d := 151) (y := .tmp 150) (pend2 := fun x99 => [⟨17, 5, p98, (cI .u8).val x99⟩, ⟨12, 5, p96, (cI .u8).val x97⟩, ⟨7, 5, p94, (cI .u8).val x95⟩, ⟨4, 73, (Addr.add p92 1), cL.val x93⟩]) Ty5 (fun _ => rfl) (fun x99 => ?_)
    refine OJ.go 3 [(154, Sl.v r89.1), (153, .int .i64 (IntKind.wrap .i64 (256 * (IntKind.wrap .i64 x99)))), (152, .int .i64 (IntKind.wrap .i64 x99))] <| OJ.idxS (d := 155) (T := 114) (y := .tmp 154) (j := .const (.int .i64 3)) (E := 5) (cap := r89.1.cap) (k := .i64) (fun p100 => ?_)
    refine OJ.ld (d := 156) (y := .tmp 155) (pend2 := fun x101 => [⟨22, 5, p100, (cI .u8).val x101⟩, ⟨17, 5, p98, (cI .u8).val x99⟩, ⟨12, 5, p96, (cI .u8).val x97⟩, ⟨7, 5, p94, (cI .u8).val x95⟩, ⟨4, 73, (Addr.add p92 1), cL.val x93⟩]) Ty5 (fun _ => rfl) (fun x101 => ?_)
    refine OJ.go 2 [(158, .int .i64 (IntKind.wrap .i64 ((IntKind.wrap .i64 (256 * (IntKind.wrap .i64 x99))) + (IntKind.wrap .i64 x101)))), (157, .int .i64 (IntKind.wrap .i64 x101))] <| OJ.rowSlot (d := 159) (t := 73) (parts := [(0, .tmp 148), (1, .tmp 158)]) (ps := [(0, (cI .i64).val (IntKind.wrap .i64 ((IntKind.wrap .i64 (256 * (IntKind.wrap .i64 x95))) + (IntKind.wrap .i64 x97)))), (1, (cI .i64).val (IntKind.wrap .i64 ((IntKind.wrap .i64 (256 * (IntKind.wrap .i64 x99))) + (IntKind.wrap .i64 x101))))]) (cd := (cI .i64)) (⟨[IntKind.wrap .i64 ((IntKind.wrap .i64 (256 * (IntKind.wrap .i64 x95))) + (IntKind.wrap .i64 x97)), IntKind.wrap .i64 ((IntKind.wrap .i64 (256 * (IntKind.wrap .i64 x99))) + (IntKind.wrap .i64 x101))], rfl⟩ : Vec Int 2) (owed := [⟨4, 73, (Addr.add p92 1), cL.val x93⟩]) Ty3 (Filled.cons (cd := (cI .i64)) (q := (IntKind.wrap .i64 ((IntKind.wrap .i64 (256 * (IntKind.wrap .i64 x95))) + (IntKind.wrap .i64 x97)))) (o := 0) rfl (Upd.arr (i := 0) (by decide) (by decide)) (Filled.cons (cd := (cI .i64)) (q := (IntKind.wrap .i64 ((IntKind.wrap .i64 (256 * (IntKind.wrap .i64 x99))) + (IntKind.wrap .i64 x101)))) (o := 1) rfl (Upd.arr (i := 1) (by decide) (by decide)) Filled.nil)) (fun b102 => ?_)
    refine OW.same Ty73 ?_
    refine OW.nil <| OJ.appl (d := 160) (t := 73) (u := 73) (so := .tmp 138) (xo := .tmp 159) (j := 0) (b := b102) (l := ((cI .i64).arr 2).enc (⟨[IntKind.wrap .i64 ((IntKind.wrap .i64 (256 * (IntKind.wrap .i64 x95))) + (IntKind.wrap .i64 x97)), IntKind.wrap .i64 ((IntKind.wrap .i64 (256 * (IntKind.wrap .i64 x99))) + (IntKind.wrap .i64 x101))], rfl⟩ : Vec Int 2)) (n := 2) (k := 2) [IntKind.wrap .i64 ((IntKind.wrap .i64 (256 * (IntKind.wrap .i64 x95))) + (IntKind.wrap .i64 x97)), IntKind.wrap .i64 ((IntKind.wrap .i64 (256 * (IntKind.wrap .i64 x99))) + (IntKind.wrap .i64 x101))] (owed := []) Ty3 (by rfl) (Cod.arr_enc _ _ _) (by rfl) (fun r103 => ?_)
    refine OW.nil <| OJ.nilck (d := 161) (y := .tmp 134) (fun p104 => ?_)
    refine OJ.go 1 [(162, .pointer (some (Addr.add p104 1)))] <| OJ.st (y := .tmp 162) (z := .tmp 160) (owed := []) Ty73 ?_
    refine OW.nil <| OJ.nil <| SJ.sr 9 <| OJ.go 2 [(164, .pointer a0), (163, .pointer a0)] <| OJ.nilck (d := 165) (y := .tmp 164) (fun p105 => ?_)
    refine OJ.go 1 [(166, .pointer (some p105))] <| OJ.ld (d := 167) (y := .tmp 166) (pend2 := fun x106 => []) Ty9 (fun _ => rfl) (fun x106 => ?_)
    refine OJ.go 1 [(168, .int .i64 (x106.size : Int))] <| OJ.nilck (d := 169) (y := .tmp 163) (fun p107 => ?_)
    refine OJ.go 1 [(170, .pointer (some (Addr.add p107 3)))] <| OJ.st (y := .tmp 170) (z := .tmp 168) (owed := []) Ty3 ?_
    exact OW.nil <| OJ.nil <| SJ.sr 1 <| OJ.go 1 [(2, .bool true)] <| OJ.nil <| SJ.r1 (.bool true) rfl rfl
  ·refine SJ.skip <| SJ.seq <| SJ.sr 7 <| OJ.go 2 [(172, .pointer a0), (171, .int .i64 s3)] <| OJ.nilck (d := 173) (y := .tmp 172) (fun p109 => ?_)
   refine OJ.go 1 [(174, .pointer (some (Addr.add p109 3)))] <| OJ.ld (d := 175) (y := .tmp 174) (pend2 := fun x110 => []) Ty3 (fun _ => rfl) (fun x110 => ?_)
   refine OJ.go 2 [(177, .bool (decide ((IntKind.wrap .i64 (s3 - x110)) > 4))), (176, .int .i64 (IntKind.wrap .i64 (s3 - x110)))] <| OJ.nil <| SJ.cond (t := (.tmp 177)) (b := decide ((IntKind.wrap .i64 (s3 - x110)) > 4)) decide_eq_true_iff (fun hc125 => ?_) (fun hc125 => ?_)
   ·refine SJ.sr 6 <| OJ.go 2 [(179, .pointer a0), (178, .pointer a0)] <| OJ.nilck (d := 180) (y := .tmp 179) (fun p114 => ?_)
    refine OJ.go 1 [(181, .pointer (some (Addr.add p114 3)))] <| OJ.ld (d := 182) (y := .tmp 181) (pend2 := fun x115 => []) Ty3 (fun _ => rfl) (fun x115 => ?_)
    refine OJ.call (d := 183) (g := 97) (ats := #[154, 3, 3]) (args := [.tmp 178, .const (.int .i64 43), .tmp 182]) (owed := []) F97 (weirref4_six_fail_ok a0 43 x115) (fun r116 => ?_)
    exact OW.nil <| OJ.nil <| SJ.sr 1 <| OJ.go 1 [(2, .bool true)] <| OJ.nil <| SJ.r1 (.bool true) rfl rfl
   ·refine SJ.skip <| SJ.sr 11 <| OJ.go 2 [(185, .pointer a0), (184, .pointer a0)] <| OJ.nilck (d := 186) (y := .tmp 185) (fun p117 => ?_)
    refine OJ.go 1 [(187, .pointer (some (Addr.add p117 1)))] <| OJ.ld (d := 188) (y := .tmp 187) (pend2 := fun x118 => []) Ty73 (fun _ => rfl) (fun x118 => ?_)
    refine OJ.go 1 [(189, .int .i64 s4)] <| OJ.rowSlot (d := 190) (t := 73) (parts := [(0, .tmp 189)]) (ps := [(0, (cI .i64).val s4)]) (cd := (cI .i64)) (⟨[s4], rfl⟩ : Vec Int 1) (owed := []) Ty3 (Filled.cons (cd := (cI .i64)) (q := s4) (o := 0) rfl (Upd.arr (i := 0) (by decide) (by decide)) Filled.nil) (fun b119 => ?_)
    refine OW.nil <| OJ.appl (d := 191) (t := 73) (u := 73) (so := .tmp 188) (xo := .tmp 190) (j := 0) (b := b119) (l := ((cI .i64).arr 1).enc (⟨[s4], rfl⟩ : Vec Int 1)) (n := 1) (k := 1) [s4] (owed := []) Ty3 (by rfl) (Cod.arr_enc _ _ _) (by rfl) (fun r120 => ?_)
    refine OW.nil <| OJ.nilck (d := 192) (y := .tmp 184) (fun p121 => ?_)
    refine OJ.go 1 [(193, .pointer (some (Addr.add p121 1)))] <| OJ.st (y := .tmp 193) (z := .tmp 191) (owed := []) Ty73 ?_
    refine OW.nil <| OJ.nil <| SJ.sr 5 <| OJ.go 2 [(195, .int .i64 s3), (194, .pointer a0)] <| OJ.nilck (d := 196) (y := .tmp 194) (fun p122 => ?_)
    refine OJ.go 1 [(197, .pointer (some (Addr.add p122 3)))] <| OJ.st (y := .tmp 197) (z := .tmp 195) (owed := []) Ty3 ?_
    refine OW.nil <| OJ.nil <| SJ.sr 8 <| OJ.go 2 [(199, .pointer a0), (198, .int .i64 s3)] <| OJ.nilck (d := 200) (y := .tmp 199) (fun p123 => ?_)
    refine OJ.go 1 [(201, .pointer (some p123))] <| OJ.ld (d := 202) (y := .tmp 201) (pend2 := fun x124 => []) Ty9 (fun _ => rfl) (fun x124 => ?_)
    exact OJ.go 3 [(2, .bool (s3 == (x124.size : Int))), (204, .bool (s3 == (x124.size : Int))), (203, .int .i64 (x124.size : Int))] <| OJ.nil <| SJ.r1 (.bool (s3 == (x124.size : Int))) rfl rfl
noncomputable def weirref4_six_group.K2 (a0 : (Option Addr)) (s3 : Int) (s4 : Int) : M Bool :=
 nilck a0 >>= fun p27 =>
 ld (cI .i64) (Addr.add p27 3) >>= fun x28 =>
 if s3 = x28 then
  draw >>= fun _ =>
  nilck a0 >>= fun p35 =>
  ld cS p35 >>= fun x36 =>
  nilck a0 >>= fun p37 =>
  ld (cI .i64) (Addr.add p37 3) >>= fun x38 =>
  weirref4_here x36 x38 >>= fun r39 =>
  weirref4_six_fail a0 r39.1 r39.2 >>= fun r40 =>
  pure true
 else
  nilck a0 >>= fun p41 =>
  ld cS p41 >>= fun x42 =>
  (if s3 < (x42.size : Int) then
    nilck a0 >>= fun p43 =>
    ld cS p43 >>= fun x44 =>
    chk ((0 : Int) ≤ s3 ∧ s3 < (x44.size : Int)) >>= fun _ =>
    pure ((sb x44 s3) == 46)
   else
    pure false) >>= fun y47 =>
  (if y47 = true then
    nilck a0 >>= fun p48 =>
    ld (cI .i64) (Addr.add p48 3) >>= fun x49 =>
    pure (decide (x49 > 0))
   else
    pure false) >>= fun y50 =>
  if y50 = true then
   weirref4_six_group.K1 a0 s3 s4 y50 2
  else
   weirref4_six_group.K1 a0 s3 s4 y50 1
theorem weirref4_six_group.K2_ok (a0 : (Option Addr)) (s3 : Int) (s4 : Int) :
  SJ weirref4_six_group.cx [.code (c2 (c2 (c2 (c2 weirref4_six_group.B))))] [(0, .pointer a0), (3, .int .i64 s3), (4, .int .i64 s4)] [] (weirref4_six_group.K2 a0 s3 s4) weirref4_six_group.F0 := by
 unfold weirref4_six_group.K2
 refine SJ.seq <| SJ.sr 6 <| OJ.go 2 [(53, .pointer a0), (52, .int .i64 s3)] <| OJ.nilck (d := 54) (y := .tmp 53) (fun p27 => ?_)
 refine OJ.go 1 [(55, .pointer (some (Addr.add p27 3)))] <| OJ.ld (d := 56) (y := .tmp 55) (pend2 := fun x28 => []) Ty3 (fun _ => rfl) (fun x28 => ?_)
 refine OJ.go 1 [(57, .bool (s3 == x28))] <| OJ.nil <| SJ.cond (t := (.tmp 57)) (b := (s3 == x28)) beq_iff_eq (fun hc129 => ?_) (fun hc129 => ?_)
 ·refine SJ.seq <| SJ.draw (id := 8) (kd := [0, 0, 0, 1, 0, 0, 0, 1, 2, 0, 0, 0, 0, 0]) (bef := [0, 1, 3, 7, 0, 16, 48, 112, 255, 511, 1023, 1023, 2047, 8191]) (ord := [0, 1, 2, 3, 4, 5, 6, 7, 8, 9, 10, 11, 12, 13]) mixed ?_
  refine OJ.go 1 [(59, .pointer a0)] <| OJ.nilck (d := 60) (y := .tmp 59) (fun p35 => ?_)
  refine OJ.go 1 [(61, .pointer (some p35))] <| OJ.ld (d := 62) (y := .tmp 61) (pend2 := fun x36 => [⟨3, 9, p35, cS.val x36⟩]) Ty9 (fun _ => rfl) (fun x36 => ?_)
  refine OJ.go 1 [(63, .pointer a0)] <| OJ.nilck (d := 64) (y := .tmp 63) (fun p37 => ?_)
  refine OJ.go 1 [(65, .pointer (some (Addr.add p37 3)))] <| OJ.ld (d := 66) (y := .tmp 65) (pend2 := fun x38 => [⟨7, 3, (Addr.add p37 3), (cI .i64).val x38⟩, ⟨3, 9, p35, cS.val x36⟩]) Ty3 (fun _ => rfl) (fun x38 => ?_)
  refine OJ.call (d := 67) (g := 83) (ats := #[9, 3]) (args := [.tmp 62, .tmp 66]) (owed := []) F83 (weirref4_here_ok x36 x38) (fun r39 => ?_)
  refine OW.nil <| OJ.go 5 [(6, .int .i64 r39.2), (5, .int .i64 r39.1), (69, .int .i64 r39.2), (68, .int .i64 r39.1), (58, .tuple #[.int .i64 r39.1, .int .i64 r39.2])] <| OJ.nil <| SJ.sr 4 <| OJ.go 3 [(72, .int .i64 r39.2), (71, .int .i64 r39.1), (70, .pointer a0)] <| OJ.call (d := 73) (g := 97) (ats := #[154, 3, 3]) (args := [.tmp 70, .tmp 71, .tmp 72]) (owed := []) F97 (weirref4_six_fail_ok a0 r39.1 r39.2) (fun r40 => ?_)
  exact OW.nil <| OJ.nil <| SJ.sr 1 <| OJ.go 1 [(2, .bool true)] <| OJ.nil <| SJ.r1 (.bool true) rfl rfl
 ·refine SJ.skip <| SJ.sr 24 <| OJ.go 2 [(75, .pointer a0), (74, .int .i64 s3)] <| OJ.nilck (d := 76) (y := .tmp 75) (fun p41 => ?_)
  refine OJ.go 1 [(77, .pointer (some p41))] <| OJ.ld (d := 78) (y := .tmp 77) (pend2 := fun x42 => []) Ty9 (fun _ => rfl) (fun x42 => ?_)
  refine OJ.go 3 [(81, .bool (decide (s3 < (x42.size : Int)))), (80, .bool (decide (s3 < (x42.size : Int)))), (79, .int .i64 (x42.size : Int))] <| OJ.join (b := decide (s3 < (x42.size : Int))) [8, 9, 10, 11, 12, 13, 14, 15] [16, 17, 18, 19, 20, 21, 22, 23] [0, 3, 4, 89] (fun y47 => [(0, .pointer a0), (3, .int .i64 s3), (4, .int .i64 s4), (89, .bool y47)]) [] [] (t := 81) decide_eq_true_iff (fun hp_ => ?_) (fun hp_ => ?_) (fun _ _ _ _ _ _ h_ => h_) (fun y47 => ?_)
  ·refine OJ.go 1 [(82, .pointer a0)] <| OJ.nilck (d := 83) (y := .tmp 82) (fun p43 => ?_)
   refine OJ.go 1 [(84, .pointer (some p43))] <| OJ.ld (d := 85) (y := .tmp 84) (pend2 := fun x44 => []) Ty9 (fun _ => rfl) (fun x44 => ?_)
   refine OJ.go 1 [(86, .int .i64 s3)] <| OJ.idxT (d := 87) (T := 9) (y := .tmp 85) (j := .tmp 86) (k := .i64) (fun hb45 hb46 => ?_)
   exact OJ.go 2 [(89, .bool ((sb x44 s3) == 46)), (88, .bool ((sb x44 s3) == 46))] <| OJ.x0
  ·exact OJ.go 8 [(89, .bool false), (88, undef), (87, undef), (86, undef), (85, undef), (84, undef), (83, undef), (82, undef)] <| OJ.x0
  ·refine OJ.go 1 [(90, .bool y47)] <| OJ.join (b := y47) [17, 18, 19, 20, 21, 22] [23] [0, 3, 4, 96] (fun y50 => [(0, .pointer a0), (3, .int .i64 s3), (4, .int .i64 s4), (96, .bool y50)]) [] [] (t := 90) Iff.rfl (fun hp_ => ?_) (fun hp_ => ?_) (fun _ _ _ _ _ _ h_ => h_) (fun y50 => ?_)
   ·refine OJ.go 1 [(91, .pointer a0)] <| OJ.nilck (d := 92) (y := .tmp 91) (fun p48 => ?_)
    refine OJ.go 1 [(93, .pointer (some (Addr.add p48 3)))] <| OJ.ld (d := 94) (y := .tmp 93) (pend2 := fun x49 => []) Ty3 (fun _ => rfl) (fun x49 => ?_)
    exact OJ.go 2 [(96, .bool (decide (x49 > 0))), (95, .bool (decide (x49 > 0)))] <| OJ.x0
   ·exact OJ.go 6 [(96, .bool false), (95, undef), (94, undef), (93, undef), (92, undef), (91, undef)] <| OJ.x0
   ·refine OJ.go 1 [(7, .bool y50)] <| OJ.nil <| SJ.sr 1 <| OJ.go 1 [(8, .int .i64 1)] <| OJ.nil <| SJ.seq <| SJ.sr 1 <| OJ.go 1 [(97, .bool y50)] <| OJ.nil <| SJ.cond (t := (.tmp 97)) (b := y50) Iff.rfl (fun hc128 => ?_) (fun hc128 => ?_)
    ·refine SJ.rg 1 <| OJ.go 1 [(8, .int .i64 2)] <| OJ.nil <| SJ.less [0, 3, 4, 7, 8] (m' := [(0, .pointer a0), (3, .int .i64 s3), (4, .int .i64 s4), (7, .bool y50), (8, .int .i64 2)]) ?_
     exact weirref4_six_group.K1_ok a0 s3 s4 y50 2
    ·refine SJ.skip <| SJ.less [0, 3, 4, 7, 8] (m' := [(0, .pointer a0), (3, .int .i64 s3), (4, .int .i64 s4), (7, .bool y50), (8, .int .i64 1)]) ?_
     exact weirref4_six_group.K1_ok a0 s3 s4 y50 1
noncomputable def weirref4_six_group.F1 (a0 : (Option Addr)) : (LS (Int × Int) Bool) → Reach := loopF [.inLoop (c1 (c1 (c1 (c2 (c2 (c2 weirref4_six_group.B)))))), .inBlock 0, .code (c2 (c2 (c2 (c2 weirref4_six_group.B))))] (fun s_ : (Int × Int) => [(0, .pointer a0), (3, .int .i64 s_.1), (4, .int .i64 s_.2)]) (fun s_ : (Int × Int) => []) weirref4_six_group.F0
noncomputable def weirref4_six_group.L1 (a0 : (Option Addr)) (s3 : Int) (s4 : Int) : M (LS (Int × Int) Bool) :=
 nilck a0 >>= fun p130 =>
 ld cS p130 >>= fun x131 =>
 (if s3 < (x131.size : Int) then
   nilck a0 >>= fun p132 =>
   ld cS p132 >>= fun x133 =>
   chk ((0 : Int) ≤ s3 ∧ s3 < (x133.size : Int)) >>= fun _ =>
   weirref4_worth (sb x133 s3) >>= fun r136 =>
   pure (decide (r136 ≥ 0))
  else
   pure false) >>= fun y137 =>
 if y137 = true then
  nilck a0 >>= fun p138 =>
  ld (cI .i64) (Addr.add p138 3) >>= fun x139 =>
  if (IntKind.wrap .i64 (s3 - x139)) < 4 then
   nilck a0 >>= fun p145 =>
   ld cS p145 >>= fun x146 =>
   chk ((0 : Int) ≤ s3 ∧ s3 < (x146.size : Int)) >>= fun _ =>
   weirref4_worth (sb x146 s3) >>= fun r149 =>
   pure (LS.next (IntKind.wrap .i64 (s3 + 1), IntKind.wrap .i64 ((IntKind.wrap .i64 (16 * s4)) + r149)))
  else
   pure (LS.next (IntKind.wrap .i64 (s3 + 1), s4))
 else
  (weirref4_six_group.K2 a0 s3 s4) >>= fun b => pure (LS.done b)
theorem weirref4_six_group.L1_ok (a0 : (Option Addr)) (s3 : Int) (s4 : Int) :
  SJ weirref4_six_group.cx [.code (c1 (c1 (c1 (c2 (c2 (c2 weirref4_six_group.B)))))), .inLoop (c1 (c1 (c1 (c2 (c2 (c2 weirref4_six_group.B)))))), .inBlock 0, .code (c2 (c2 (c2 (c2 weirref4_six_group.B))))] [(0, .pointer a0), (3, .int .i64 s3), (4, .int .i64 s4)] [] (weirref4_six_group.L1 a0 s3 s4) (weirref4_six_group.F1 a0) := by
 unfold weirref4_six_group.L1
 refine SJ.seq <| SJ.sr 17 <| OJ.go 2 [(17, .pointer a0), (16, .int .i64 s3)] <| OJ.nilck (d := 18) (y := .tmp 17) (fun p130 => ?_)
 refine OJ.go 1 [(19, .pointer (some p130))] <| OJ.ld (d := 20) (y := .tmp 19) (pend2 := fun x131 => []) Ty9 (fun _ => rfl) (fun x131 => ?_)
 refine OJ.go 3 [(23, .bool (decide (s3 < (x131.size : Int)))), (22, .bool (decide (s3 < (x131.size : Int)))), (21, .int .i64 (x131.size : Int))] <| OJ.join (b := decide (s3 < (x131.size : Int))) [8, 9, 10, 11, 12, 13, 14, 15, 16] [] [0, 3, 4, 32] (fun y137 => [(0, .pointer a0), (3, .int .i64 s3), (4, .int .i64 s4), (32, .bool y137)]) [] [] (t := 23) decide_eq_true_iff (fun hp_ => ?_) (fun hp_ => ?_) (fun _ _ _ _ _ _ h_ => h_) (fun y137 => ?_)
 ·refine OJ.go 1 [(24, .pointer a0)] <| OJ.nilck (d := 25) (y := .tmp 24) (fun p132 => ?_)
  refine OJ.go 1 [(26, .pointer (some p132))] <| OJ.ld (d := 27) (y := .tmp 26) (pend2 := fun x133 => []) Ty9 (fun _ => rfl) (fun x133 => ?_)
  refine OJ.go 1 [(28, .int .i64 s3)] <| OJ.idxT (d := 29) (T := 9) (y := .tmp 27) (j := .tmp 28) (k := .i64) (fun hb134 hb135 => ?_)
  refine OJ.call (d := 30) (g := 98) (ats := #[5]) (args := [.tmp 29]) (owed := []) F98 (weirref4_worth_ok (sb x133 s3)) (fun r136 => ?_)
  exact OW.nil <| OJ.go 2 [(32, .bool (decide (r136 ≥ 0))), (31, .bool (decide (r136 ≥ 0)))] <| OJ.x0
 ·exact OJ.go 9 [(32, .bool false), (31, undef), (30, undef), (29, undef), (28, undef), (27, undef), (26, undef), (25, undef), (24, undef)] <| OJ.x0
 ·refine OJ.nil <| SJ.cond (t := (.tmp 32)) (b := y137) Iff.rfl (fun hc151 => ?_) (fun hc151 => ?_)
  ·refine SJ.skip <| SJ.block (id := 1) <| SJ.seq <| SJ.sr 7 <| OJ.go 2 [(34, .pointer a0), (33, .int .i64 s3)] <| OJ.nilck (d := 35) (y := .tmp 34) (fun p138 => ?_)
   refine OJ.go 1 [(36, .pointer (some (Addr.add p138 3)))] <| OJ.ld (d := 37) (y := .tmp 36) (pend2 := fun x139 => []) Ty3 (fun _ => rfl) (fun x139 => ?_)
   refine OJ.go 2 [(39, .bool (decide ((IntKind.wrap .i64 (s3 - x139)) < 4))), (38, .int .i64 (IntKind.wrap .i64 (s3 - x139)))] <| OJ.nil <| SJ.cond (t := (.tmp 39)) (b := decide ((IntKind.wrap .i64 (s3 - x139)) < 4)) decide_eq_true_iff (fun hc150 => ?_) (fun hc150 => ?_)
   ·refine SJ.rg 11 <| OJ.go 3 [(42, .pointer a0), (41, .int .i64 (IntKind.wrap .i64 (16 * s4))), (40, .int .i64 s4)] <| OJ.nilck (d := 43) (y := .tmp 42) (fun p145 => ?_)
    refine OJ.go 1 [(44, .pointer (some p145))] <| OJ.ld (d := 45) (y := .tmp 44) (pend2 := fun x146 => []) Ty9 (fun _ => rfl) (fun x146 => ?_)
    refine OJ.go 1 [(46, .int .i64 s3)] <| OJ.idxT (d := 47) (T := 9) (y := .tmp 45) (j := .tmp 46) (k := .i64) (fun hb147 hb148 => ?_)
    refine OJ.call (d := 48) (g := 98) (ats := #[5]) (args := [.tmp 47]) (owed := []) F98 (weirref4_worth_ok (sb x146 s3)) (fun r149 => ?_)
    exact OW.nil <| OJ.go 2 [(4, .int .i64 (IntKind.wrap .i64 ((IntKind.wrap .i64 (16 * s4)) + r149))), (49, .int .i64 (IntKind.wrap .i64 ((IntKind.wrap .i64 (16 * s4)) + r149)))] <| OJ.nil <| SJ.rg 3 <| OJ.go 3 [(3, .int .i64 (IntKind.wrap .i64 (s3 + 1))), (51, .int .i64 (IntKind.wrap .i64 (s3 + 1))), (50, .int .i64 s3)] <| OJ.nil <| SJ.inBlock <| SJ.at_ [0, 3, 4] rfl
   ·exact SJ.skip <| SJ.rg 3 <| OJ.go 3 [(3, .int .i64 (IntKind.wrap .i64 (s3 + 1))), (51, .int .i64 (IntKind.wrap .i64 (s3 + 1))), (50, .int .i64 s3)] <| OJ.nil <| SJ.inBlock <| SJ.at_ [0, 3, 4] rfl
  ·refine SJ.exit (id := 0) (by rfl) <| SJ.less [0, 3, 4] (m' := [(0, .pointer a0), (3, .int .i64 s3), (4, .int .i64 s4)]) ?_
   refine SJ.done ?_
   exact weirref4_six_group.K2_ok a0 s3 s4
noncomputable def weirref4_six_group (a0 : (Option Addr)) : M Bool :=
 nilck a0 >>= fun p1 =>
 ld (cI .i64) (Addr.add p1 3) >>= fun x2 =>
 loopM (fun s_ : (Int × Int) => weirref4_six_group.L1 a0 s_.1 s_.2) (x2, 0)
theorem weirref4_six_group_ok (a0 : (Option Addr)) : Ref Tryd.prog 95 [.pointer a0] (weirref4_six_group a0) weirref4_six_group.out := by
 refine Ref.of (cd := weirref4_six_group.B) Tryd.func95 ?_
 show SJ weirref4_six_group.cx [.code weirref4_six_group.B] [(0, .pointer a0)] [] (weirref4_six_group a0) weirref4_six_group.F0
 unfold weirref4_six_group
 refine SJ.sr 1 <| OJ.go 1 [(2, .bool false)] <| OJ.nil <| SJ.sr 5 <| OJ.go 1 [(12, .pointer a0)] <| OJ.nilck (d := 13) (y := .tmp 12) (fun p1 => ?_)
 refine OJ.go 1 [(14, .pointer (some (Addr.add p1 3)))] <| OJ.ld (d := 15) (y := .tmp 14) (pend2 := fun x2 => []) Ty3 (fun _ => rfl) (fun x2 => ?_)
 exact OJ.go 1 [(3, .int .i64 x2)] <| OJ.nil <| SJ.sr 1 <| OJ.go 1 [(4, .int .i64 0)] <| OJ.nil <| SJ.seq <| SJ.block (id := 0) <| SJ.loop (fun s_ : (Int × Int) => [(0, .pointer a0), (3, .int .i64 s_.1), (4, .int .i64 s_.2)]) (fun s_ : (Int × Int) => []) [0, 3, 4] rfl (fun _ _ => rfl) (fun s_ => weirref4_six_group.L1_ok a0 s_.1 s_.2)

/-! ### (*weir/weirref4.six).between: function 96 -/
noncomputable def weirref4_six_between.B : Code := (Tryd.f96.body).getD .skip
noncomputable def weirref4_six_between.cx : Fx := ⟨Tryd.prog, 96, Tryd.f96, none⟩
noncomputable def weirref4_six_between.out (r_ : Bool) : Value := .bool r_
noncomputable def weirref4_six_between.F0 (r_ : Bool) : Reach := .ret (weirref4_six_between.out r_)
noncomputable def weirref4_six_between (a0 : (Option Addr)) : M Bool :=
 draw >>= fun _ =>
 nilck a0 >>= fun p1 =>
 ld cS p1 >>= fun x2 =>
 nilck a0 >>= fun p3 =>
 ld (cI .i64) (Addr.add p3 3) >>= fun x4 =>
 weirref4_two x2 x4 >>= fun r5 =>
 (if r5 = true then
   nilck a0 >>= fun p6 =>
   ld (cI .i64) (Addr.add p6 2) >>= fun x7 =>
   (if x7 ≥ 0 then
     pure true
    else
     nilck a0 >>= fun p8 =>
     ld cL (Addr.add p8 1) >>= fun x9 =>
     pure ((x9.len : Int) == 8)) >>= fun y10 =>
   pure y10
  else
   pure false) >>= fun y11 =>
 if y11 = true then
  nilck a0 >>= fun p74 =>
  ld (cI .i64) (Addr.add p74 3) >>= fun x75 =>
  weirref4_six_fail a0 44 x75 >>= fun r76 =>
  pure false
 else
  if r5 = true then
   nilck a0 >>= fun p106 =>
   ld cL (Addr.add p106 1) >>= fun x107 =>
   nilck a0 >>= fun p108 =>
   st (cI .i64) (Addr.add p108 2) (x107.len : Int) >>= fun _ =>
   nilck a0 >>= fun p109 =>
   ld (cI .i64) (Addr.add p109 3) >>= fun x110 =>
   nilck a0 >>= fun p111 =>
   st (cI .i64) (Addr.add p111 3) (IntKind.wrap .i64 (x110 + 2)) >>= fun _ =>
   draw >>= fun _ =>
   nilck a0 >>= fun p112 =>
   ld (cI .i64) (Addr.add p112 3) >>= fun x113 =>
   nilck a0 >>= fun p114 =>
   ld cS p114 >>= fun x115 =>
   pure (x113 == (x115.size : Int))
  else
   draw >>= fun _ =>
   nilck a0 >>= fun p116 =>
   ld cS p116 >>= fun x117 =>
   nilck a0 >>= fun p118 =>
   ld (cI .i64) (Addr.add p118 3) >>= fun x119 =>
   chk ((0 : Int) ≤ x119 ∧ x119 < (x117.size : Int)) >>= fun _ =>
   if (sb x117 x119) = 58 then
    nilck a0 >>= fun p128 =>
    ld (cI .i64) (Addr.add p128 3) >>= fun x129 =>
    nilck a0 >>= fun p130 =>
    st (cI .i64) (Addr.add p130 3) (IntKind.wrap .i64 (x129 + 1)) >>= fun _ =>
    pure false
   else
    nilck a0 >>= fun p131 =>
    ld (cI .i64) (Addr.add p131 3) >>= fun x132 =>
    weirref4_six_fail a0 41 x132 >>= fun r133 =>
    pure false
theorem weirref4_six_between_ok (a0 : (Option Addr)) : Ref Tryd.prog 96 [.pointer a0] (weirref4_six_between a0) weirref4_six_between.out := by
 refine Ref.of (cd := weirref4_six_between.B) Tryd.func96 ?_
 show SJ weirref4_six_between.cx [.code weirref4_six_between.B] [(0, .pointer a0)] [] (weirref4_six_between a0) weirref4_six_between.F0
 unfold weirref4_six_between
 refine SJ.sr 1 <| OJ.go 1 [(2, .bool false)] <| OJ.nil <| SJ.seq <| SJ.draw (id := 1) (kd := [0, 0, 0, 1, 0, 0, 0, 1, 2, 0]) (bef := [0, 1, 3, 7, 0, 16, 48, 112, 255, 511]) (ord := [0, 1, 2, 3, 4, 5, 6, 7, 8, 9]) mixed ?_
 refine OJ.go 1 [(4, .pointer a0)] <| OJ.nilck (d := 5) (y := .tmp 4) (fun p1 => ?_)
 refine OJ.go 1 [(6, .pointer (some p1))] <| OJ.ld (d := 7) (y := .tmp 6) (pend2 := fun x2 => [⟨3, 9, p1, cS.val x2⟩]) Ty9 (fun _ => rfl) (fun x2 => ?_)
 refine OJ.go 1 [(8, .pointer a0)] <| OJ.nilck (d := 9) (y := .tmp 8) (fun p3 => ?_)
 refine OJ.go 1 [(10, .pointer (some (Addr.add p3 3)))] <| OJ.ld (d := 11) (y := .tmp 10) (pend2 := fun x4 => [⟨7, 3, (Addr.add p3 3), (cI .i64).val x4⟩, ⟨3, 9, p1, cS.val x2⟩]) Ty3 (fun _ => rfl) (fun x4 => ?_)
 refine OJ.call (d := 12) (g := 94) (ats := #[9, 3]) (args := [.tmp 7, .tmp 11]) (owed := []) F94 (weirref4_two_ok x2 x4) (fun r5 => ?_)
 refine OW.nil <| OJ.go 1 [(3, .bool r5)] <| OJ.nil <| SJ.seq <| SJ.block (id := 0) <| SJ.sr 17 <| OJ.go 2 [(21, .bool r5), (20, .bool r5)] <| OJ.join (b := r5) [2, 3, 4, 5, 6, 7, 8, 9, 10, 11, 12, 13, 14, 15] [16] [0, 3, 35] (fun y11 => [(0, .pointer a0), (3, .bool r5), (35, .bool y11)]) [] [] (t := 21) Iff.rfl (fun hp_ => ?_) (fun hp_ => ?_) (fun _ _ _ _ _ _ h_ => h_) (fun y11 => ?_)
 ·refine OJ.go 1 [(22, .pointer a0)] <| OJ.nilck (d := 23) (y := .tmp 22) (fun p6 => ?_)
  refine OJ.go 1 [(24, .pointer (some (Addr.add p6 2)))] <| OJ.ld (d := 25) (y := .tmp 24) (pend2 := fun x7 => []) Ty3 (fun _ => rfl) (fun x7 => ?_)
  refine OJ.go 2 [(27, .bool (decide (x7 ≥ 0))), (26, .bool (decide (x7 ≥ 0)))] <| OJ.join (b := decide (x7 ≥ 0)) [8, 9, 10, 11, 12, 13, 14] [15] [0, 3, 21, 34] (fun y10 => [(0, .pointer a0), (3, .bool r5), (21, .bool true), (34, .bool y10)]) [] [] (t := 27) decide_eq_true_iff (fun hp_ => ?_) (fun hp_ => ?_) (fun _ _ _ _ _ hq_ h_ => ⟨fun e_ he_ => (hq_ e_ he_).elim (fun h => h_.1 e_ h) (fun h => nomatch h), h_.2⟩) (fun y10 => ?_)
  ·exact OJ.go 7 [(34, .bool true), (33, undef), (32, undef), (31, undef), (30, undef), (29, undef), (28, undef)] <| OJ.x0
  ·refine OJ.go 1 [(28, .pointer a0)] <| OJ.nilck (d := 29) (y := .tmp 28) (fun p8 => ?_)
   refine OJ.go 1 [(30, .pointer (some (Addr.add p8 1)))] <| OJ.ld (d := 31) (y := .tmp 30) (pend2 := fun x9 => []) Ty73 (fun _ => rfl) (fun x9 => ?_)
   exact OJ.go 3 [(34, .bool ((x9.len : Int) == 8)), (33, .bool ((x9.len : Int) == 8)), (32, .int .i64 (x9.len : Int))] <| OJ.x0
  ·exact OJ.go 1 [(35, .bool y10)] <| OJ.x0
 ·exact OJ.go 14 [(35, .bool false), (34, undef), (33, undef), (32, undef), (31, undef), (30, undef), (29, undef), (28, undef), (27, undef), (26, undef), (25, undef), (24, undef), (23, undef), (22, undef)] <| OJ.x0
 ·refine OJ.go 1 [(19, .bool y11)] <| OJ.nil <| SJ.cond (t := (.tmp 19)) (b := y11) Iff.rfl (fun hc136 => ?_) (fun hc136 => ?_)
  ·refine SJ.rg 6 <| OJ.go 2 [(37, .pointer a0), (36, .pointer a0)] <| OJ.nilck (d := 38) (y := .tmp 37) (fun p74 => ?_)
   refine OJ.go 1 [(39, .pointer (some (Addr.add p74 3)))] <| OJ.ld (d := 40) (y := .tmp 39) (pend2 := fun x75 => []) Ty3 (fun _ => rfl) (fun x75 => ?_)
   refine OJ.call (d := 41) (g := 97) (ats := #[154, 3, 3]) (args := [.tmp 36, .const (.int .i64 44), .tmp 40]) (owed := []) F97 (weirref4_six_fail_ok a0 44 x75) (fun r76 => ?_)
   exact OW.nil <| OJ.nil <| SJ.inBlock <| SJ.sr 1 <| OJ.go 1 [(2, .bool false)] <| OJ.nil <| SJ.r1 (.bool false) rfl rfl
  ·refine SJ.sr 2 <| OJ.go 2 [(42, .bool r5), (43, .bool r5)] <| OJ.nil <| SJ.cond (t := (.tmp 42)) (b := r5) Iff.rfl (fun hc135 => ?_) (fun hc135 => ?_)
   ·refine SJ.sr 9 <| OJ.go 2 [(45, .pointer a0), (44, .pointer a0)] <| OJ.nilck (d := 46) (y := .tmp 45) (fun p106 => ?_)
    refine OJ.go 1 [(47, .pointer (some (Addr.add p106 1)))] <| OJ.ld (d := 48) (y := .tmp 47) (pend2 := fun x107 => []) Ty73 (fun _ => rfl) (fun x107 => ?_)
    refine OJ.go 1 [(49, .int .i64 (x107.len : Int))] <| OJ.nilck (d := 50) (y := .tmp 44) (fun p108 => ?_)
    refine OJ.go 1 [(51, .pointer (some (Addr.add p108 2)))] <| OJ.st (y := .tmp 51) (z := .tmp 49) (owed := []) Ty3 ?_
    refine OW.nil <| OJ.nil <| SJ.sr 9 <| OJ.go 2 [(53, .pointer a0), (52, .pointer a0)] <| OJ.nilck (d := 54) (y := .tmp 53) (fun p109 => ?_)
    refine OJ.go 1 [(55, .pointer (some (Addr.add p109 3)))] <| OJ.ld (d := 56) (y := .tmp 55) (pend2 := fun x110 => []) Ty3 (fun _ => rfl) (fun x110 => ?_)
    refine OJ.go 1 [(57, .int .i64 (IntKind.wrap .i64 (x110 + 2)))] <| OJ.nilck (d := 58) (y := .tmp 52) (fun p111 => ?_)
    refine OJ.go 1 [(59, .pointer (some (Addr.add p111 3)))] <| OJ.st (y := .tmp 59) (z := .tmp 57) (owed := []) Ty3 ?_
    refine OW.nil <| OJ.nil <| SJ.seq <| SJ.draw (id := 8) (kd := [0, 0, 0, 1, 0, 0, 0, 1, 0, 0, 0]) (bef := [0, 1, 3, 7, 0, 16, 48, 112, 240, 511, 1023]) (ord := [0, 1, 2, 3, 4, 5, 6, 7, 8, 9, 10]) mixed ?_
    refine OJ.go 1 [(60, .pointer a0)] <| OJ.nilck (d := 61) (y := .tmp 60) (fun p112 => ?_)
    refine OJ.go 1 [(62, .pointer (some (Addr.add p112 3)))] <| OJ.ld (d := 63) (y := .tmp 62) (pend2 := fun x113 => [⟨3, 3, (Addr.add p112 3), (cI .i64).val x113⟩]) Ty3 (fun _ => rfl) (fun x113 => ?_)
    refine OJ.go 1 [(64, .pointer a0)] <| OJ.nilck (d := 65) (y := .tmp 64) (fun p114 => ?_)
    refine OJ.go 1 [(66, .pointer (some p114))] <| OJ.ld (d := 67) (y := .tmp 66) (pend2 := fun x115 => [⟨7, 9, p114, cS.val x115⟩, ⟨3, 3, (Addr.add p112 3), (cI .i64).val x113⟩]) Ty9 (fun _ => rfl) (fun x115 => ?_)
    exact OJ.go 3 [(2, .bool (x113 == (x115.size : Int))), (69, .bool (x113 == (x115.size : Int))), (68, .int .i64 (x115.size : Int))] <| OJ.nil <| SJ.r1 (.bool (x113 == (x115.size : Int))) rfl rfl
   ·refine SJ.seq <| SJ.draw (id := 9) (kd := [0, 0, 0, 1, 0, 0, 0, 1, 0, 0, 0]) (bef := [0, 1, 3, 7, 0, 16, 48, 112, 255, 511, 1023]) (ord := [0, 1, 2, 3, 4, 5, 6, 7, 8, 9, 10]) mixed ?_
    refine OJ.go 1 [(71, .pointer a0)] <| OJ.nilck (d := 72) (y := .tmp 71) (fun p116 => ?_)
    refine OJ.go 1 [(73, .pointer (some p116))] <| OJ.ld (d := 74) (y := .tmp 73) (pend2 := fun x117 => [⟨3, 9, p116, cS.val x117⟩]) Ty9 (fun _ => rfl) (fun x117 => ?_)
    refine OJ.go 1 [(75, .pointer a0)] <| OJ.nilck (d := 76) (y := .tmp 75) (fun p118 => ?_)
    refine OJ.go 1 [(77, .pointer (some (Addr.add p118 3)))] <| OJ.ld (d := 78) (y := .tmp 77) (pend2 := fun x119 => [⟨7, 3, (Addr.add p118 3), (cI .i64).val x119⟩, ⟨3, 9, p116, cS.val x117⟩]) Ty3 (fun _ => rfl) (fun x119 => ?_)
    refine OJ.idxT (d := 79) (T := 9) (y := .tmp 74) (j := .tmp 78) (k := .i64) (fun hb120 hb121 => ?_)
    refine OJ.go 2 [(70, .bool ((sb x117 x119) == 58)), (80, .bool ((sb x117 x119) == 58))] <| OJ.nil <| SJ.cond (t := (.tmp 70)) (b := ((sb x117 x119) == 58)) beq_iff_eq (fun hc134 => ?_) (fun hc134 => ?_)
    ·refine SJ.rg 8 <| OJ.go 1 [(81, .pointer a0)] <| OJ.nilck (d := 82) (y := .tmp 81) (fun p128 => ?_)
     refine OJ.go 1 [(83, .pointer (some (Addr.add p128 3)))] <| OJ.ld (d := 84) (y := .tmp 83) (pend2 := fun x129 => []) Ty3 (fun _ => rfl) (fun x129 => ?_)
     refine OJ.go 1 [(85, .int .i64 (IntKind.wrap .i64 (x129 + 1)))] <| OJ.nilck (d := 86) (y := .tmp 81) (fun p130 => ?_)
     refine OJ.go 1 [(87, .pointer (some (Addr.add p130 3)))] <| OJ.st (y := .tmp 87) (z := .tmp 85) (owed := []) Ty3 ?_
     exact OW.nil <| OJ.nil <| SJ.inBlock <| SJ.sr 1 <| OJ.go 1 [(2, .bool false)] <| OJ.nil <| SJ.r1 (.bool false) rfl rfl
    ·refine SJ.rg 6 <| OJ.go 2 [(14, .pointer a0), (13, .pointer a0)] <| OJ.nilck (d := 15) (y := .tmp 14) (fun p131 => ?_)
     refine OJ.go 1 [(16, .pointer (some (Addr.add p131 3)))] <| OJ.ld (d := 17) (y := .tmp 16) (pend2 := fun x132 => []) Ty3 (fun _ => rfl) (fun x132 => ?_)
     refine OJ.call (d := 18) (g := 97) (ats := #[154, 3, 3]) (args := [.tmp 13, .const (.int .i64 41), .tmp 17]) (owed := []) F97 (weirref4_six_fail_ok a0 41 x132) (fun r133 => ?_)
     exact OW.nil <| OJ.nil <| SJ.inBlock <| SJ.sr 1 <| OJ.go 1 [(2, .bool false)] <| OJ.nil <| SJ.r1 (.bool false) rfl rfl

/-! ### weir/weirref4.sixes: function 91 -/
noncomputable def weirref4_sixes.B : Code := (Tryd.f91.body).getD .skip
noncomputable def weirref4_sixes.cx : Fx := ⟨Tryd.prog, 91, Tryd.f91, none⟩
noncomputable def weirref4_sixes.out (r_ : ((Vec Int 16) × Int × Int)) : Value := .tuple #[((cI .u8).arr 16).val r_.1, .int .i64 r_.2.1, .int .i64 r_.2.2]
noncomputable def weirref4_sixes.F0 (r_ : ((Vec Int 16) × Int × Int)) : Reach := .ret (weirref4_sixes.out r_)
noncomputable def weirref4_sixes.F1 (b1 : Nat) (b2 : Nat) (b3 : Nat) : (LS (Int × (Vec Int 16)) ((Vec Int 16) × Int × Int)) → Reach := loopF [.inLoop (c1 (c1 (c2 (c1 (c2 (c2 (c2 (c2 (c2 (c2 (c2 (c2 (c2 weirref4_sixes.B))))))))))))), .inBlock 2, .code (c2 (c2 (c2 (c2 (c2 (c2 (c2 (c2 (c2 (c2 weirref4_sixes.B))))))))))] (fun s_ : (Int × (Vec Int 16)) => [(2, .pointer (some (pt b1 0))), (5, .pointer (some (pt b2 0))), (6, .pointer (some (pt b3 0))), (9, .int .i64 s_.1)]) (fun s_ : (Int × (Vec Int 16)) => [(b2, ((cI .u8).arr 16).enc s_.2), (b1, ((cI .u8).arr 16).enc (Vec.rep 16 0))]) weirref4_sixes.F0
noncomputable def weirref4_sixes.K1 (b3 : Nat) (s27 : Int) (s28 : (Vec Int 16)) (j53 : Int) : M (LS (Int × (Vec Int 16)) ((Vec Int 16) × Int × Int)) :=
 ld cL (Addr.add (pt b3 0) 1) >>= fun x54 =>
 idx x54.a x54.len s27 1 >>= fun p55 =>
 ld (cI .i64) p55 >>= fun x56 =>
 chk ((0 : Int) ≤ (IntKind.wrap .i64 (2 * j53)) ∧ (IntKind.wrap .i64 (2 * j53)) < (16 : Nat)) >>= fun _ =>
 ld cL (Addr.add (pt b3 0) 1) >>= fun x59 =>
 idx x59.a x59.len s27 1 >>= fun p60 =>
 ld (cI .i64) p60 >>= fun x61 =>
 chk ((0 : Int) ≤ (IntKind.wrap .i64 ((IntKind.wrap .i64 (2 * j53)) + 1)) ∧ (IntKind.wrap .i64 ((IntKind.wrap .i64 (2 * j53)) + 1)) < (16 : Nat)) >>= fun _ =>
 pure (LS.next (IntKind.wrap .i64 (s27 + 1), (Vec.s (Vec.s s28 (IntKind.wrap .i64 (2 * j53)) (IntKind.wrap .u8 (IntKind.wrap .i64 (Int.tdiv x56 256)))) (IntKind.wrap .i64 ((IntKind.wrap .i64 (2 * j53)) + 1)) (IntKind.wrap .u8 (Int.tmod x61 256)))))
theorem weirref4_sixes.K1_ok (b1 : Nat) (b2 : Nat) (b3 : Nat) (s27 : Int) (s28 : (Vec Int 16)) (j53 : Int) :
  SJ weirref4_sixes.cx [.code (c2 (c2 (c1 (c1 (c2 (c1 (c1 (c2 (c1 (c2 (c2 (c2 (c2 (c2 (c2 (c2 (c2 (c2 weirref4_sixes.B)))))))))))))))))), .inBlock 3, .code (c2 (c2 (c1 (c1 (c2 (c1 (c2 (c2 (c2 (c2 (c2 (c2 (c2 (c2 (c2 weirref4_sixes.B))))))))))))))), .inLoop (c1 (c1 (c2 (c1 (c2 (c2 (c2 (c2 (c2 (c2 (c2 (c2 (c2 weirref4_sixes.B))))))))))))), .inBlock 2, .code (c2 (c2 (c2 (c2 (c2 (c2 (c2 (c2 (c2 (c2 weirref4_sixes.B))))))))))] [(2, .pointer (some (pt b1 0))), (5, .pointer (some (pt b2 0))), (6, .pointer (some (pt b3 0))), (9, .int .i64 s27), (10, .int .i64 j53)] [(b2, ((cI .u8).arr 16).enc s28), (b1, ((cI .u8).arr 16).enc (Vec.rep 16 0))] (weirref4_sixes.K1 b3 s27 s28 j53) (weirref4_sixes.F1 b1 b2 b3) := by
 unfold weirref4_sixes.K1
 refine SJ.sr 13 <| OJ.go 5 [(121, .pointer (some (Addr.add (pt b3 0) 1))), (120, .pointer (some (pt b3 0))), (119, .pointer (some (pt b3 0))), (118, .int .i64 (IntKind.wrap .i64 (2 * j53))), (117, .int .i64 j53)] <| OJ.ld (d := 122) (y := .tmp 121) (pend2 := fun x54 => []) Ty73 (fun _ => rfl) (fun x54 => ?_)
 refine OJ.go 1 [(123, .int .i64 s27)] <| OJ.idxS (d := 124) (T := 73) (y := .tmp 122) (j := .tmp 123) (E := 3) (cap := x54.cap) (k := .i64) (fun p55 => ?_)
 refine OJ.ld (d := 125) (y := .tmp 124) (pend2 := fun x56 => []) Ty3 (fun _ => rfl) (fun x56 => ?_)
 refine OJ.go 2 [(127, .int .u8 (IntKind.wrap .u8 (IntKind.wrap .i64 (Int.tdiv x56 256)))), (126, .int .i64 (IntKind.wrap .i64 (Int.tdiv x56 256)))] <| OJ.idxK (d := 128) (T := 26) (y := .tmp 5) (j := .tmp 118) (E := 5) (sz := 1) (b := b2) (o := 0) (k := .i64) (fun hb57 hb58 => ?_)
 refine OJ.kst (y := .tmp 128) (z := .tmp 127) (cd := (cI .u8)) (u := (IntKind.wrap .u8 (IntKind.wrap .i64 (Int.tdiv x56 256)))) (j := 0) (b := b2) (o := (0 + (IntKind.wrap .i64 (2 * j53)).toNat * 1)) (((cI .u8).arr 16).enc (Vec.s s28 (IntKind.wrap .i64 (2 * j53)) (IntKind.wrap .u8 (IntKind.wrap .i64 (Int.tdiv x56 256))))) (owed := []) Ty5 rfl (Upd.zero (Upd.arr hb57 hb58)) rfl ?_
 refine OW.nil <| OJ.nil <| SJ.rg 14 <| OJ.go 6 [(134, .pointer (some (Addr.add (pt b3 0) 1))), (133, .pointer (some (pt b3 0))), (132, .pointer (some (pt b3 0))), (131, .int .i64 (IntKind.wrap .i64 ((IntKind.wrap .i64 (2 * j53)) + 1))), (130, .int .i64 (IntKind.wrap .i64 (2 * j53))), (129, .int .i64 j53)] <| OJ.ld (d := 135) (y := .tmp 134) (pend2 := fun x59 => []) Ty73 (fun _ => rfl) (fun x59 => ?_)
 refine OJ.go 1 [(136, .int .i64 s27)] <| OJ.idxS (d := 137) (T := 73) (y := .tmp 135) (j := .tmp 136) (E := 3) (cap := x59.cap) (k := .i64) (fun p60 => ?_)
 refine OJ.ld (d := 138) (y := .tmp 137) (pend2 := fun x61 => []) Ty3 (fun _ => rfl) (fun x61 => ?_)
 refine OJ.go 2 [(140, .int .u8 (IntKind.wrap .u8 (Int.tmod x61 256))), (139, .int .i64 (Int.tmod x61 256))] <| OJ.idxK (d := 141) (T := 26) (y := .tmp 5) (j := .tmp 131) (E := 5) (sz := 1) (b := b2) (o := 0) (k := .i64) (fun hb62 hb63 => ?_)
 refine OJ.kst (y := .tmp 141) (z := .tmp 140) (cd := (cI .u8)) (u := (IntKind.wrap .u8 (Int.tmod x61 256))) (j := 0) (b := b2) (o := (0 + (IntKind.wrap .i64 ((IntKind.wrap .i64 (2 * j53)) + 1)).toNat * 1)) (((cI .u8).arr 16).enc (Vec.s (Vec.s s28 (IntKind.wrap .i64 (2 * j53)) (IntKind.wrap .u8 (IntKind.wrap .i64 (Int.tdiv x56 256)))) (IntKind.wrap .i64 ((IntKind.wrap .i64 (2 * j53)) + 1)) (IntKind.wrap .u8 (Int.tmod x61 256)))) (owed := []) Ty5 rfl (Upd.zero (Upd.arr hb62 hb63)) rfl ?_
 exact OW.nil <| OJ.nil <| SJ.inBlock <| SJ.rg 3 <| OJ.go 3 [(9, .int .i64 (IntKind.wrap .i64 (s27 + 1))), (94, .int .i64 (IntKind.wrap .i64 (s27 + 1))), (93, .int .i64 s27)] <| OJ.nil <| SJ.at_ [2, 5, 6, 9] rfl
noncomputable def weirref4_sixes.L1 (b3 : Nat) (s27 : Int) (s28 : (Vec Int 16)) : M (LS (Int × (Vec Int 16)) ((Vec Int 16) × Int × Int)) :=
 ld cL (Addr.add (pt b3 0) 1) >>= fun x48 =>
 if s27 < (x48.len : Int) then
  ld (cI .i64) (Addr.add (pt b3 0) 2) >>= fun x49 =>
  (if x49 ≥ 0 then
    ld (cI .i64) (Addr.add (pt b3 0) 2) >>= fun x50 =>
    pure (decide (s27 ≥ x50))
   else
    pure false) >>= fun y51 =>
  if y51 = true then
   ld cL (Addr.add (pt b3 0) 1) >>= fun x64 =>
   weirref4_sixes.K1 b3 s27 s28 (IntKind.wrap .i64 ((IntKind.wrap .i64 (8 - (x64.len : Int))) + s27))
  else
   weirref4_sixes.K1 b3 s27 s28 s27
 else
  pure (LS.done (s28, 0, 0))
theorem weirref4_sixes.L1_ok (b1 : Nat) (b2 : Nat) (b3 : Nat) (s27 : Int) (s28 : (Vec Int 16)) :
  SJ weirref4_sixes.cx [.code (c1 (c1 (c2 (c1 (c2 (c2 (c2 (c2 (c2 (c2 (c2 (c2 (c2 weirref4_sixes.B))))))))))))), .inLoop (c1 (c1 (c2 (c1 (c2 (c2 (c2 (c2 (c2 (c2 (c2 (c2 (c2 weirref4_sixes.B))))))))))))), .inBlock 2, .code (c2 (c2 (c2 (c2 (c2 (c2 (c2 (c2 (c2 (c2 weirref4_sixes.B))))))))))] [(2, .pointer (some (pt b1 0))), (5, .pointer (some (pt b2 0))), (6, .pointer (some (pt b3 0))), (9, .int .i64 s27)] [(b2, ((cI .u8).arr 16).enc s28), (b1, ((cI .u8).arr 16).enc (Vec.rep 16 0))] (weirref4_sixes.L1 b3 s27 s28) (weirref4_sixes.F1 b1 b2 b3) := by
 unfold weirref4_sixes.L1
 refine SJ.seq <| SJ.sr 7 <| OJ.go 4 [(89, .pointer (some (Addr.add (pt b3 0) 1))), (88, .pointer (some (pt b3 0))), (87, .pointer (some (pt b3 0))), (86, .int .i64 s27)] <| OJ.ld (d := 90) (y := .tmp 89) (pend2 := fun x48 => []) Ty73 (fun _ => rfl) (fun x48 => ?_)
 refine OJ.go 2 [(92, .bool (decide (s27 < (x48.len : Int)))), (91, .int .i64 (x48.len : Int))] <| OJ.nil <| SJ.cond (t := (.tmp 92)) (b := decide (s27 < (x48.len : Int))) decide_eq_true_iff (fun hc66 => ?_) (fun hc66 => ?_)
 ·refine SJ.skip <| SJ.seq <| SJ.block (id := 3) <| SJ.sr 2 <| OJ.go 2 [(10, .int .i64 s27), (95, .int .i64 s27)] <| OJ.nil <| SJ.seq <| SJ.sr 13 <| OJ.go 3 [(98, .pointer (some (Addr.add (pt b3 0) 2))), (97, .pointer (some (pt b3 0))), (96, .pointer (some (pt b3 0)))] <| OJ.ld (d := 99) (y := .tmp 98) (pend2 := fun x49 => []) Ty3 (fun _ => rfl) (fun x49 => ?_)
  refine OJ.go 2 [(101, .bool (decide (x49 ≥ 0))), (100, .bool (decide (x49 ≥ 0)))] <| OJ.join (b := decide (x49 ≥ 0)) [6, 7, 8, 9, 10, 11, 12] [] [2, 5, 6, 9, 10, 108] (fun y51 => [(2, .pointer (some (pt b1 0))), (5, .pointer (some (pt b2 0))), (6, .pointer (some (pt b3 0))), (9, .int .i64 s27), (10, .int .i64 s27), (108, .bool y51)]) [] [] (t := 101) decide_eq_true_iff (fun hp_ => ?_) (fun hp_ => ?_) (fun _ _ _ _ _ _ h_ => h_) (fun y51 => ?_)
  ·refine OJ.go 4 [(105, .pointer (some (Addr.add (pt b3 0) 2))), (104, .pointer (some (pt b3 0))), (103, .pointer (some (pt b3 0))), (102, .int .i64 s27)] <| OJ.ld (d := 106) (y := .tmp 105) (pend2 := fun x50 => []) Ty3 (fun _ => rfl) (fun x50 => ?_)
   exact OJ.go 2 [(108, .bool (decide (s27 ≥ x50))), (107, .bool (decide (s27 ≥ x50)))] <| OJ.x0
  ·exact OJ.go 7 [(108, .bool false), (107, undef), (106, undef), (105, undef), (104, undef), (103, undef), (102, undef)] <| OJ.x0
  ·refine OJ.nil <| SJ.cond (t := (.tmp 108)) (b := y51) Iff.rfl (fun hc65 => ?_) (fun hc65 => ?_)
   ·refine SJ.rg 9 <| OJ.go 3 [(111, .pointer (some (Addr.add (pt b3 0) 1))), (110, .pointer (some (pt b3 0))), (109, .pointer (some (pt b3 0)))] <| OJ.ld (d := 112) (y := .tmp 111) (pend2 := fun x64 => []) Ty73 (fun _ => rfl) (fun x64 => ?_)
    refine OJ.go 5 [(10, .int .i64 (IntKind.wrap .i64 ((IntKind.wrap .i64 (8 - (x64.len : Int))) + s27))), (116, .int .i64 (IntKind.wrap .i64 ((IntKind.wrap .i64 (8 - (x64.len : Int))) + s27))), (115, .int .i64 s27), (114, .int .i64 (IntKind.wrap .i64 (8 - (x64.len : Int)))), (113, .int .i64 (x64.len : Int))] <| OJ.nil <| SJ.less [2, 5, 6, 9, 10] (m' := [(2, .pointer (some (pt b1 0))), (5, .pointer (some (pt b2 0))), (6, .pointer (some (pt b3 0))), (9, .int .i64 s27), (10, .int .i64 (IntKind.wrap .i64 ((IntKind.wrap .i64 (8 - (x64.len : Int))) + s27)))]) ?_
    exact weirref4_sixes.K1_ok b1 b2 b3 s27 s28 (IntKind.wrap .i64 ((IntKind.wrap .i64 (8 - (x64.len : Int))) + s27))
   ·refine SJ.skip <| SJ.less [2, 5, 6, 9, 10] (m' := [(2, .pointer (some (pt b1 0))), (5, .pointer (some (pt b2 0))), (6, .pointer (some (pt b3 0))), (9, .int .i64 s27), (10, .int .i64 s27)]) ?_
    exact weirref4_sixes.K1_ok b1 b2 b3 s27 s28 s27
 ·refine SJ.exit (id := 2) (by rfl) <| SJ.sr 4 <| OJ.kld (d := 142) (y := .tmp 5) (cd := ((cI .u8).arr 16)) (j := 0) (b := b2) (o := 0) s28 (pend2 := []) Ty26 rfl (At.whole _) rfl ?_
  refine OJ.kst (y := .tmp 2) (z := .tmp 142) (cd := ((cI .u8).arr 16)) (u := s28) (j := 1) (b := b1) (o := 0) (((cI .u8).arr 16).enc s28) (owed := []) Ty26 rfl (Upd.whole ((Cod.len _ _).trans (Cod.len _ _).symm)) rfl ?_
  exact OW.nil <| OJ.go 2 [(4, .int .i64 0), (3, .int .i64 0)] <| OJ.nil <| SJ.ret rfl (Res.run (ys := [((cI .u8).arr 16).val s28, .int .i64 0, .int .i64 0]) (.cell (j := 1) (b := b1) (cd := ((cI .u8).arr 16)) (q := s28) (by kernel_rfl) rfl Ty26 (At.whole _) (.tmp (by kernel_rfl) (.tmp (by kernel_rfl) .nil))) rfl)
noncomputable def weirref4_sixes.K2 (b3 : Nat) : M ((Vec Int 16) × Int × Int) :=
 ld (cI .i64) (Addr.add (pt b3 0) 4) >>= fun x22 =>
 if x22 ≠ 0 then
  draw >>= fun _ =>
  ld (cI .i64) (Addr.add (pt b3 0) 4) >>= fun x25 =>
  ld (cI .i64) (Addr.add (pt b3 0) 5) >>= fun x26 =>
  same (cI .i64) (Addr.add (pt b3 0) 5) x26 >>= fun _ =>
  same (cI .i64) (Addr.add (pt b3 0) 4) x25 >>= fun _ =>
  pure ((Vec.rep 16 0), x25, x26)
 else
  loopM (fun s_ : (Int × (Vec Int 16)) => weirref4_sixes.L1 b3 s_.1 s_.2) (0, (Vec.rep 16 0))
theorem weirref4_sixes.K2_ok (b1 : Nat) (b2 : Nat) (b3 : Nat) :
  SJ weirref4_sixes.cx [.code (c2 (c2 (c2 (c2 (c2 (c2 (c2 (c2 weirref4_sixes.B))))))))] [(2, .pointer (some (pt b1 0))), (5, .pointer (some (pt b2 0))), (6, .pointer (some (pt b3 0)))] [(b2, ((cI .u8).arr 16).enc (Vec.rep 16 0)), (b1, ((cI .u8).arr 16).enc (Vec.rep 16 0))] (weirref4_sixes.K2 b3) weirref4_sixes.F0 := by
 unfold weirref4_sixes.K2
 refine SJ.seq <| SJ.sr 5 <| OJ.go 3 [(74, .pointer (some (Addr.add (pt b3 0) 4))), (73, .pointer (some (pt b3 0))), (72, .pointer (some (pt b3 0)))] <| OJ.ld (d := 75) (y := .tmp 74) (pend2 := fun x22 => []) Ty3 (fun _ => rfl) (fun x22 => ?_)
 refine OJ.go 1 [(76, .bool (x22 != 0))] <| OJ.nil <| SJ.cond (t := (.tmp 76)) (b := (x22 != 0)) bne_iff_ne (fun hc67 => ?_) (fun hc67 => ?_)
 ·refine SJ.seq <| SJ.draw (id := 16) (kd := [1, 0, 0, 0, 1, 0, 0, 0, 1, 2, 0, 0]) (bef := [0, 0, 2, 6, 14, 0, 32, 96, 224, 1, 543, 2047]) (ord := [0, 1, 2, 3, 4, 5, 6, 7, 8, 9, 10, 11]) mixed ?_
  refine OJ.kld (d := 77) (y := .tmp 5) (cd := ((cI .u8).arr 16)) (j := 0) (b := b2) (o := 0) (Vec.rep 16 0) (pend2 := [⟨0, 26, (pt b2 0), ((cI .u8).arr 16).val (Vec.rep 16 0)⟩]) Ty26 rfl (At.whole _) rfl ?_
  refine OJ.go 3 [(80, .pointer (some (Addr.add (pt b3 0) 4))), (79, .pointer (some (pt b3 0))), (78, .pointer (some (pt b3 0)))] <| OJ.ld (d := 81) (y := .tmp 80) (pend2 := fun x25 => [⟨4, 3, (Addr.add (pt b3 0) 4), (cI .i64).val x25⟩, ⟨0, 26, (pt b2 0), ((cI .u8).arr 16).val (Vec.rep 16 0)⟩]) Ty3 (fun _ => rfl) (fun x25 => ?_)
  refine OJ.go 3 [(84, .pointer (some (Addr.add (pt b3 0) 5))), (83, .pointer (some (pt b3 0))), (82, .pointer (some (pt b3 0)))] <| OJ.ld (d := 85) (y := .tmp 84) (pend2 := fun x26 => [⟨8, 3, (Addr.add (pt b3 0) 5), (cI .i64).val x26⟩, ⟨4, 3, (Addr.add (pt b3 0) 4), (cI .i64).val x25⟩, ⟨0, 26, (pt b2 0), ((cI .u8).arr 16).val (Vec.rep 16 0)⟩]) Ty3 (fun _ => rfl) (fun x26 => ?_)
  refine OJ.kst (y := .tmp 2) (z := .tmp 77) (cd := ((cI .u8).arr 16)) (u := (Vec.rep 16 0)) (j := 1) (b := b1) (o := 0) (((cI .u8).arr 16).enc (Vec.rep 16 0)) (owed := [⟨8, 3, (Addr.add (pt b3 0) 5), (cI .i64).val x26⟩, ⟨4, 3, (Addr.add (pt b3 0) 4), (cI .i64).val x25⟩]) Ty26 rfl (Upd.whole ((Cod.len _ _).trans (Cod.len _ _).symm)) rfl ?_
  refine OW.same Ty3 ?_
  refine OW.same Ty3 ?_
  exact OW.nil <| OJ.go 2 [(4, .int .i64 x26), (3, .int .i64 x25)] <| OJ.nil <| SJ.ret rfl (Res.run (ys := [((cI .u8).arr 16).val (Vec.rep 16 0), .int .i64 x25, .int .i64 x26]) (.cell (j := 1) (b := b1) (cd := ((cI .u8).arr 16)) (q := (Vec.rep 16 0)) (by kernel_rfl) rfl Ty26 (At.whole _) (.tmp (by kernel_rfl) (.tmp (by kernel_rfl) .nil))) rfl)
 ·exact SJ.skip <| SJ.seq <| SJ.sr 1 <| OJ.go 1 [(9, .int .i64 0)] <| OJ.nil <| SJ.block (id := 2) <| SJ.loop (fun s_ : (Int × (Vec Int 16)) => [(2, .pointer (some (pt b1 0))), (5, .pointer (some (pt b2 0))), (6, .pointer (some (pt b3 0))), (9, .int .i64 s_.1)]) (fun s_ : (Int × (Vec Int 16)) => [(b2, ((cI .u8).arr 16).enc s_.2), (b1, ((cI .u8).arr 16).enc (Vec.rep 16 0))]) [2, 5, 6, 9] rfl (fun _ _ => rfl) (fun s_ => weirref4_sixes.L1_ok b1 b2 b3 s_.1 s_.2)
noncomputable def weirref4_sixes.K3 (a0 : ByteArray) (b3 : Nat) : M ((Vec Int 16) × Int × Int) :=
 ld (cI .i64) (Addr.add (pt b3 0) 4) >>= fun x16 =>
 (if x16 = 0 then
   ld (cI .i64) (Addr.add (pt b3 0) 2) >>= fun x17 =>
   pure (decide (x17 < 0))
  else
   pure false) >>= fun y18 =>
 (if y18 = true then
   ld cL (Addr.add (pt b3 0) 1) >>= fun x19 =>
   pure (decide ((x19.len : Int) < 8))
  else
   pure false) >>= fun y20 =>
 if y20 = true then
  weirref4_six_fail (some (pt b3 0)) 42 (a0.size : Int) >>= fun r68 =>
  weirref4_sixes.K2 b3
 else
  weirref4_sixes.K2 b3
theorem weirref4_sixes.K3_ok (a0 : ByteArray) (b1 : Nat) (b2 : Nat) (b3 : Nat) :
  SJ weirref4_sixes.cx [.code (c2 (c2 (c2 (c2 (c2 (c2 (c2 weirref4_sixes.B)))))))] [(0, .string a0), (2, .pointer (some (pt b1 0))), (5, .pointer (some (pt b2 0))), (6, .pointer (some (pt b3 0)))] [(b2, ((cI .u8).arr 16).enc (Vec.rep 16 0)), (b1, ((cI .u8).arr 16).enc (Vec.rep 16 0))] (weirref4_sixes.K3 a0 b3) weirref4_sixes.F0 := by
 unfold weirref4_sixes.K3
 refine SJ.seq <| SJ.sr 20 <| OJ.go 3 [(50, .pointer (some (Addr.add (pt b3 0) 4))), (49, .pointer (some (pt b3 0))), (48, .pointer (some (pt b3 0)))] <| OJ.ld (d := 51) (y := .tmp 50) (pend2 := fun x16 => []) Ty3 (fun _ => rfl) (fun x16 => ?_)
 refine OJ.go 2 [(53, .bool (x16 == 0)), (52, .bool (x16 == 0))] <| OJ.join (b := (x16 == 0)) [6, 7, 8, 9, 10, 11] [12, 13, 14, 15, 16, 17, 18, 19] [0, 2, 5, 6, 59] (fun y18 => [(0, .string a0), (2, .pointer (some (pt b1 0))), (5, .pointer (some (pt b2 0))), (6, .pointer (some (pt b3 0))), (59, .bool y18)]) [] [] (t := 53) beq_iff_eq (fun hp_ => ?_) (fun hp_ => ?_) (fun _ _ _ _ _ _ h_ => h_) (fun y18 => ?_)
 ·refine OJ.go 3 [(56, .pointer (some (Addr.add (pt b3 0) 2))), (55, .pointer (some (pt b3 0))), (54, .pointer (some (pt b3 0)))] <| OJ.ld (d := 57) (y := .tmp 56) (pend2 := fun x17 => []) Ty3 (fun _ => rfl) (fun x17 => ?_)
  exact OJ.go 2 [(59, .bool (decide (x17 < 0))), (58, .bool (decide (x17 < 0)))] <| OJ.x0
 ·exact OJ.go 6 [(59, .bool false), (58, undef), (57, undef), (56, undef), (55, undef), (54, undef)] <| OJ.x0
 ·refine OJ.go 1 [(60, .bool y18)] <| OJ.join (b := y18) [13, 14, 15, 16, 17, 18, 19] [] [0, 2, 5, 6, 67] (fun y20 => [(0, .string a0), (2, .pointer (some (pt b1 0))), (5, .pointer (some (pt b2 0))), (6, .pointer (some (pt b3 0))), (67, .bool y20)]) [] [] (t := 60) Iff.rfl (fun hp_ => ?_) (fun hp_ => ?_) (fun _ _ _ _ _ _ h_ => h_) (fun y20 => ?_)
  ·refine OJ.go 3 [(63, .pointer (some (Addr.add (pt b3 0) 1))), (62, .pointer (some (pt b3 0))), (61, .pointer (some (pt b3 0)))] <| OJ.ld (d := 64) (y := .tmp 63) (pend2 := fun x19 => []) Ty73 (fun _ => rfl) (fun x19 => ?_)
   exact OJ.go 3 [(67, .bool (decide ((x19.len : Int) < 8))), (66, .bool (decide ((x19.len : Int) < 8))), (65, .int .i64 (x19.len : Int))] <| OJ.x0
  ·exact OJ.go 7 [(67, .bool false), (66, undef), (65, undef), (64, undef), (63, undef), (62, undef), (61, undef)] <| OJ.x0
  ·refine OJ.nil <| SJ.cond (t := (.tmp 67)) (b := y20) Iff.rfl (fun hc69 => ?_) (fun hc69 => ?_)
   ·refine SJ.rg 4 <| OJ.go 3 [(70, .int .i64 (a0.size : Int)), (69, .string a0), (68, .pointer (some (pt b3 0)))] <| OJ.call (d := 71) (g := 97) (ats := #[154, 3, 3]) (args := [.tmp 68, .const (.int .i64 42), .tmp 70]) (owed := []) F97 (weirref4_six_fail_ok (some (pt b3 0)) 42 (a0.size : Int)) (fun r68 => ?_)
    refine OW.nil <| OJ.nil <| SJ.less [2, 5, 6] (m' := [(2, .pointer (some (pt b1 0))), (5, .pointer (some (pt b2 0))), (6, .pointer (some (pt b3 0)))]) ?_
    exact weirref4_sixes.K2_ok b1 b2 b3
   ·refine SJ.skip <| SJ.less [2, 5, 6] (m' := [(2, .pointer (some (pt b1 0))), (5, .pointer (some (pt b2 0))), (6, .pointer (some (pt b3 0)))]) ?_
    exact weirref4_sixes.K2_ok b1 b2 b3
noncomputable def weirref4_sixes.F2 (a0 : ByteArray) (b1 : Nat) (b2 : Nat) (b3 : Nat) : (LS Bool ((Vec Int 16) × Int × Int)) → Reach := loopF [.inLoop (c1 (c1 (c1 (c2 (c2 (c2 (c2 (c2 (c2 weirref4_sixes.B))))))))), .inBlock 0, .code (c2 (c2 (c2 (c2 (c2 (c2 (c2 weirref4_sixes.B)))))))] (fun s_ : Bool => [(0, .string a0), (2, .pointer (some (pt b1 0))), (5, .pointer (some (pt b2 0))), (6, .pointer (some (pt b3 0))), (7, .bool s_)]) (fun s_ : Bool => [(b2, ((cI .u8).arr 16).enc (Vec.rep 16 0)), (b1, ((cI .u8).arr 16).enc (Vec.rep 16 0))]) weirref4_sixes.F0
noncomputable def weirref4_sixes.L2 (a0 : ByteArray) (b3 : Nat) (s6 : Bool) : M (LS Bool ((Vec Int 16) × Int × Int)) :=
 (if ¬ (s6 = true) then
   ld (cI .i64) (Addr.add (pt b3 0) 4) >>= fun x70 =>
   pure (x70 == 0)
  else
   pure false) >>= fun y71 =>
 if y71 = true then
  weirref4_six_group (some (pt b3 0)) >>= fun r72 =>
  (if ¬ (r72 = true) then
    ld (cI .i64) (Addr.add (pt b3 0) 4) >>= fun x73 =>
    pure (x73 == 0)
   else
    pure false) >>= fun y74 =>
  if y74 = true then
   weirref4_six_between (some (pt b3 0)) >>= fun r76 =>
   pure (LS.next r76)
  else
   pure (LS.next r72)
 else
  (weirref4_sixes.K3 a0 b3) >>= fun b => pure (LS.done b)
theorem weirref4_sixes.L2_ok (a0 : ByteArray) (b1 : Nat) (b2 : Nat) (b3 : Nat) (s6 : Bool) :
  SJ weirref4_sixes.cx [.code (c1 (c1 (c1 (c2 (c2 (c2 (c2 (c2 (c2 weirref4_sixes.B))))))))), .inLoop (c1 (c1 (c1 (c2 (c2 (c2 (c2 (c2 (c2 weirref4_sixes.B))))))))), .inBlock 0, .code (c2 (c2 (c2 (c2 (c2 (c2 (c2 weirref4_sixes.B)))))))] [(0, .string a0), (2, .pointer (some (pt b1 0))), (5, .pointer (some (pt b2 0))), (6, .pointer (some (pt b3 0))), (7, .bool s6)] [(b2, ((cI .u8).arr 16).enc (Vec.rep 16 0)), (b1, ((cI .u8).arr 16).enc (Vec.rep 16 0))] (weirref4_sixes.L2 a0 b3 s6) (weirref4_sixes.F2 a0 b1 b2 b3) := by
 unfold weirref4_sixes.L2
 refine SJ.seq <| SJ.sr 9 <| OJ.go 3 [(28, .bool (!s6)), (27, .bool (!s6)), (26, .bool s6)] <| OJ.join (b := (!s6)) [3, 4, 5, 6, 7, 8] [] [0, 2, 5, 6, 34] (fun y71 => [(0, .string a0), (2, .pointer (some (pt b1 0))), (5, .pointer (some (pt b2 0))), (6, .pointer (some (pt b3 0))), (34, .bool y71)]) [] [] (t := 28) (bnot_iff Iff.rfl) (fun hp_ => ?_) (fun hp_ => ?_) (fun _ _ _ _ _ _ h_ => h_) (fun y71 => ?_)
 ·refine OJ.go 3 [(31, .pointer (some (Addr.add (pt b3 0) 4))), (30, .pointer (some (pt b3 0))), (29, .pointer (some (pt b3 0)))] <| OJ.ld (d := 32) (y := .tmp 31) (pend2 := fun x70 => []) Ty3 (fun _ => rfl) (fun x70 => ?_)
  exact OJ.go 2 [(34, .bool (x70 == 0)), (33, .bool (x70 == 0))] <| OJ.x0
 ·exact OJ.go 6 [(34, .bool false), (33, undef), (32, undef), (31, undef), (30, undef), (29, undef)] <| OJ.x0
 ·refine OJ.nil <| SJ.cond (t := (.tmp 34)) (b := y71) Iff.rfl (fun hc78 => ?_) (fun hc78 => ?_)
  ·refine SJ.skip <| SJ.block (id := 1) <| SJ.sr 3 <| OJ.go 1 [(35, .pointer (some (pt b3 0)))] <| OJ.call (d := 36) (g := 95) (ats := #[154]) (args := [.tmp 35]) (owed := []) F95 (weirref4_six_group_ok (some (pt b3 0))) (fun r72 => ?_)
   refine OW.nil <| OJ.go 1 [(7, .bool r72)] <| OJ.nil <| SJ.sr 9 <| OJ.go 3 [(39, .bool (!r72)), (38, .bool (!r72)), (37, .bool r72)] <| OJ.join (b := (!r72)) [3, 4, 5, 6, 7, 8] [] [0, 2, 5, 6, 7, 45] (fun y74 => [(0, .string a0), (2, .pointer (some (pt b1 0))), (5, .pointer (some (pt b2 0))), (6, .pointer (some (pt b3 0))), (7, .bool r72), (45, .bool y74)]) [] [] (t := 39) (bnot_iff Iff.rfl) (fun hp_ => ?_) (fun hp_ => ?_) (fun _ _ _ _ _ _ h_ => h_) (fun y74 => ?_)
   ·refine OJ.go 3 [(42, .pointer (some (Addr.add (pt b3 0) 4))), (41, .pointer (some (pt b3 0))), (40, .pointer (some (pt b3 0)))] <| OJ.ld (d := 43) (y := .tmp 42) (pend2 := fun x73 => []) Ty3 (fun _ => rfl) (fun x73 => ?_)
    exact OJ.go 2 [(45, .bool (x73 == 0)), (44, .bool (x73 == 0))] <| OJ.x0
   ·exact OJ.go 6 [(45, .bool false), (44, undef), (43, undef), (42, undef), (41, undef), (40, undef)] <| OJ.x0
   ·refine OJ.nil <| SJ.cond (t := (.tmp 45)) (b := y74) Iff.rfl (fun hc77 => ?_) (fun hc77 => ?_)
    ·refine SJ.rg 3 <| OJ.go 1 [(46, .pointer (some (pt b3 0)))] <| OJ.call (d := 47) (g := 96) (ats := #[154]) (args := [.tmp 46]) (owed := []) F96 (weirref4_six_between_ok (some (pt b3 0))) (fun r76 => ?_)
     exact OW.nil <| OJ.go 1 [(7, .bool r76)] <| OJ.nil <| SJ.inBlock <| SJ.at_ [0, 2, 5, 6, 7] rfl
    ·exact SJ.skip <| SJ.inBlock <| SJ.at_ [0, 2, 5, 6, 7] rfl
  ·refine SJ.exit (id := 0) (by rfl) <| SJ.less [0, 2, 5, 6] (m' := [(0, .string a0), (2, .pointer (some (pt b1 0))), (5, .pointer (some (pt b2 0))), (6, .pointer (some (pt b3 0)))]) ?_
   refine SJ.done ?_
   exact weirref4_sixes.K3_ok a0 b1 b2 b3
noncomputable def weirref4_sixes.K4 (a0 : ByteArray) (b3 : Nat) (j5 : Bool) : M ((Vec Int 16) × Int × Int) :=
 loopM (fun s_ : Bool => weirref4_sixes.L2 a0 b3 s_) j5
theorem weirref4_sixes.K4_ok (a0 : ByteArray) (b1 : Nat) (b2 : Nat) (b3 : Nat) (j5 : Bool) :
  SJ weirref4_sixes.cx [.code (c2 (c2 (c2 (c2 (c2 (c2 weirref4_sixes.B))))))] [(0, .string a0), (2, .pointer (some (pt b1 0))), (5, .pointer (some (pt b2 0))), (6, .pointer (some (pt b3 0))), (7, .bool j5)] [(b2, ((cI .u8).arr 16).enc (Vec.rep 16 0)), (b1, ((cI .u8).arr 16).enc (Vec.rep 16 0))] (weirref4_sixes.K4 a0 b3 j5) weirref4_sixes.F0 := by
 unfold weirref4_sixes.K4
 exact SJ.seq <| SJ.block (id := 0) <| SJ.loop (fun s_ : Bool => [(0, .string a0), (2, .pointer (some (pt b1 0))), (5, .pointer (some (pt b2 0))), (6, .pointer (some (pt b3 0))), (7, .bool s_)]) (fun s_ : Bool => [(b2, ((cI .u8).arr 16).enc (Vec.rep 16 0)), (b1, ((cI .u8).arr 16).enc (Vec.rep 16 0))]) [0, 2, 5, 6, 7] rfl (fun _ _ => rfl) (fun s_ => weirref4_sixes.L2_ok a0 b1 b2 b3 s_)
noncomputable def weirref4_sixes (a0 : ByteArray) : M ((Vec Int 16) × Int × Int) :=
 slot 26 >>= fun b1 =>
 slot 26 >>= fun b2 =>
 newv 156 c_weirref4_six (⟨a0, z_weirref4_six.groups, (-1), z_weirref4_six.p, z_weirref4_six.err, z_weirref4_six.at_⟩ : weirref4_six) >>= fun b3 =>
 weirref4_two a0 0 >>= fun r4 =>
 if r4 = true then
  st (cI .i64) (Addr.add (pt b3 0) 2) 0 >>= fun _ =>
  st (cI .i64) (Addr.add (pt b3 0) 3) 2 >>= fun _ =>
  weirref4_sixes.K4 a0 b3 ((a0.size : Int) == 2)
 else
  weirref4_sixes.K4 a0 b3 false
theorem weirref4_sixes_ok (a0 : ByteArray) : Ref Tryd.prog 91 [.string a0] (weirref4_sixes a0) weirref4_sixes.out := by
 refine Ref.of (cd := weirref4_sixes.B) Tryd.func91 ?_
 show SJ weirref4_sixes.cx [.code weirref4_sixes.B] [(0, .string a0)] [] (weirref4_sixes a0) weirref4_sixes.F0
 unfold weirref4_sixes
 refine SJ.sr 3 <| OJ.slotOf (d := 2) (op := (.alloc 26)) (cd := ((cI .u8).arr 16)) (u := (Vec.rep 16 0)) (owed := []) (alloc_run Ty26) (fun b1 => ?_)
 refine OW.nil <| OJ.go 2 [(4, .int .i64 0), (3, .int .i64 0)] <| OJ.nil <| SJ.sr 1 <| OJ.slotOf (d := 5) (op := (.alloc 26)) (cd := ((cI .u8).arr 16)) (u := (Vec.rep 16 0)) (owed := []) (alloc_run Ty26) (fun b2 => ?_)
 refine OW.nil <| OJ.nil <| SJ.sr 4 <| OJ.go 1 [(11, .string a0)] <| OJ.build (d := 12) (T := 156) (parts := [(0, .tmp 11), (2, .const (.int .i64 (-1)))]) (ps := [(0, cS.val a0), (2, (cI .i64).val (-1))]) (cd := c_weirref4_six) (z0 := z_weirref4_six) (⟨a0, z_weirref4_six.groups, (-1), z_weirref4_six.p, z_weirref4_six.err, z_weirref4_six.at_⟩ : weirref4_six) Ty156 rfl (Filled.cons (cd := cS) (q := a0) (o := 0) (by kernel_rfl) (Up_weirref4_six_s z_weirref4_six a0) (Filled.cons (cd := (cI .i64)) (q := (-1)) (o := 2) (by kernel_rfl) (Up_weirref4_six_gap (⟨a0, z_weirref4_six.groups, z_weirref4_six.gap, z_weirref4_six.p, z_weirref4_six.err, z_weirref4_six.at_⟩ : weirref4_six) (-1)) Filled.nil)) ?_
 refine OJ.newOf (d := 13) (op := (.box 156 (.tmp 12))) (cd := c_weirref4_six) (u := (⟨a0, z_weirref4_six.groups, (-1), z_weirref4_six.p, z_weirref4_six.err, z_weirref4_six.at_⟩ : weirref4_six)) (owed := []) (box_run (by kernel_rfl)) (fun b3 => ?_)
 refine OW.nil <| OJ.go 1 [(6, .pointer (some (pt b3 0)))] <| OJ.nil <| SJ.sr 1 <| OJ.go 1 [(7, .bool false)] <| OJ.nil <| SJ.sr 3 <| OJ.go 1 [(14, .string a0)] <| OJ.call (d := 15) (g := 94) (ats := #[9, 3]) (args := [.tmp 14, .const (.int .i64 0)]) (owed := []) F94 (weirref4_two_ok a0 0) (fun r4 => ?_)
 refine OW.nil <| OJ.go 1 [(8, .bool r4)] <| OJ.nil <| SJ.seq <| SJ.sr 1 <| OJ.go 1 [(16, .bool r4)] <| OJ.nil <| SJ.cond (t := (.tmp 16)) (b := r4) Iff.rfl (fun hc79 => ?_) (fun hc79 => ?_)
 ·refine SJ.sr 4 <| OJ.go 3 [(19, .pointer (some (Addr.add (pt b3 0) 2))), (18, .pointer (some (pt b3 0))), (17, .pointer (some (pt b3 0)))] <| OJ.st (y := .tmp 19) (z := .const (.int .i64 0)) (owed := []) Ty3 ?_
  refine OW.nil <| OJ.nil <| SJ.sr 4 <| OJ.go 3 [(22, .pointer (some (Addr.add (pt b3 0) 3))), (21, .pointer (some (pt b3 0))), (20, .pointer (some (pt b3 0)))] <| OJ.st (y := .tmp 22) (z := .const (.int .i64 2)) (owed := []) Ty3 ?_
  refine OW.nil <| OJ.nil <| SJ.rg 4 <| OJ.go 4 [(7, .bool ((a0.size : Int) == 2)), (25, .bool ((a0.size : Int) == 2)), (24, .int .i64 (a0.size : Int)), (23, .string a0)] <| OJ.nil <| SJ.less [0, 2, 5, 6, 7] (m' := [(0, .string a0), (2, .pointer (some (pt b1 0))), (5, .pointer (some (pt b2 0))), (6, .pointer (some (pt b3 0))), (7, .bool ((a0.size : Int) == 2))]) ?_
  exact weirref4_sixes.K4_ok a0 b1 b2 b3 ((a0.size : Int) == 2)
 ·refine SJ.skip <| SJ.less [0, 2, 5, 6, 7] (m' := [(0, .string a0), (2, .pointer (some (pt b1 0))), (5, .pointer (some (pt b2 0))), (6, .pointer (some (pt b3 0))), (7, .bool false)]) ?_
  exact weirref4_sixes.K4_ok a0 b1 b2 b3 false

/-! ### weir/weirref4.ParseIP: function 81 -/
noncomputable def weirref4_ParseIP.B : Code := (Tryd.f81.body).getD .skip
noncomputable def weirref4_ParseIP.cx : Fx := ⟨Tryd.prog, 81, Tryd.f81, none⟩
noncomputable def weirref4_ParseIP.out (r_ : (api_IP × Int × Int)) : Value := .tuple #[c_api_IP.val r_.1, .int .i64 r_.2.1, .int .i64 r_.2.2]
noncomputable def weirref4_ParseIP.F0 (r_ : (api_IP × Int × Int)) : Reach := .ret (weirref4_ParseIP.out r_)
noncomputable def weirref4_ParseIP.F1 (b1 : Nat) (r9 : (Sl × Int × Int)) (b10 : Nat) : (LS (Int × api_IP) (api_IP × Int × Int)) → Reach := loopF [.inLoop (c1 (c1 (c2 (c1 (c2 (c2 (c2 (c2 (c2 (c2 weirref4_ParseIP.B)))))))))), .inBlock 0, .code (c2 (c2 (c2 (c2 (c2 (c2 (c2 weirref4_ParseIP.B)))))))] (fun s_ : (Int × api_IP) => [(2, .pointer (some (pt b1 0))), (8, Sl.v r9.1), (11, .pointer (some (pt b10 0))), (12, .int .i64 s_.1)]) (fun s_ : (Int × api_IP) => [(b10, c_api_IP.enc s_.2), (b1, c_api_IP.enc z_api_IP)]) weirref4_ParseIP.F0
noncomputable def weirref4_ParseIP.L1 (r9 : (Sl × Int × Int)) (s11 : Int) (s12 : api_IP) : M (LS (Int × api_IP) (api_IP × Int × Int)) :=
 if s11 < 4 then
  idx r9.1.a r9.1.len s11 1 >>= fun p18 =>
  ld (cI .u8) p18 >>= fun x19 =>
  chk ((0 : Int) ≤ s11 ∧ s11 < (16 : Nat)) >>= fun _ =>
  pure (LS.next (IntKind.wrap .i64 (s11 + 1), (⟨s12.V, (Vec.s s12.A s11 x19)⟩ : api_IP)))
 else
  pure (LS.done (s12, 0, 0))
theorem weirref4_ParseIP.L1_ok (b1 : Nat) (r9 : (Sl × Int × Int)) (b10 : Nat) (s11 : Int) (s12 : api_IP) :
  SJ weirref4_ParseIP.cx [.code (c1 (c1 (c2 (c1 (c2 (c2 (c2 (c2 (c2 (c2 weirref4_ParseIP.B)))))))))), .inLoop (c1 (c1 (c2 (c1 (c2 (c2 (c2 (c2 (c2 (c2 weirref4_ParseIP.B)))))))))), .inBlock 0, .code (c2 (c2 (c2 (c2 (c2 (c2 (c2 weirref4_ParseIP.B)))))))] [(2, .pointer (some (pt b1 0))), (8, Sl.v r9.1), (11, .pointer (some (pt b10 0))), (12, .int .i64 s11)] [(b10, c_api_IP.enc s12), (b1, c_api_IP.enc z_api_IP)] (weirref4_ParseIP.L1 r9 s11 s12) (weirref4_ParseIP.F1 b1 r9 b10) := by
 unfold weirref4_ParseIP.L1
 refine SJ.seq <| SJ.sr 2 <| OJ.go 2 [(45, .bool (decide (s11 < 4))), (44, .int .i64 s11)] <| OJ.nil <| SJ.cond (t := (.tmp 45)) (b := decide (s11 < 4)) decide_eq_true_iff (fun hc22 => ?_) (fun hc22 => ?_)
 ·refine SJ.skip <| SJ.seq <| SJ.block (id := 1) <| SJ.rg 8 <| OJ.go 3 [(50, .int .i64 s11), (49, Sl.v r9.1), (48, .int .i64 s11)] <| OJ.idxS (d := 51) (T := 114) (y := .tmp 49) (j := .tmp 50) (E := 5) (cap := r9.1.cap) (k := .i64) (fun p18 => ?_)
  refine OJ.ld (d := 52) (y := .tmp 51) (pend2 := fun x19 => []) Ty5 (fun _ => rfl) (fun x19 => ?_)
  refine OJ.go 1 [(53, .pointer (some (pt b10 1)))] <| OJ.idxK (d := 54) (T := 26) (y := .tmp 53) (j := .tmp 48) (E := 5) (sz := 1) (b := b10) (o := 1) (k := .i64) (fun hb20 hb21 => ?_)
  refine OJ.kst (y := .tmp 54) (z := .tmp 52) (cd := (cI .u8)) (u := x19) (j := 0) (b := b10) (o := (1 + s11.toNat * 1)) (c_api_IP.enc (⟨s12.V, (Vec.s s12.A s11 x19)⟩ : api_IP)) (owed := []) Ty5 rfl (Upd.trans (At_api_IP_A s12) (Upd.arr hb20 hb21) (Up_api_IP_A s12 (Vec.s s12.A s11 x19))) rfl ?_
  exact OW.nil <| OJ.nil <| SJ.inBlock <| SJ.rg 3 <| OJ.go 3 [(12, .int .i64 (IntKind.wrap .i64 (s11 + 1))), (47, .int .i64 (IntKind.wrap .i64 (s11 + 1))), (46, .int .i64 s11)] <| OJ.nil <| SJ.at_ [2, 8, 11, 12] rfl
 ·refine SJ.exit (id := 0) (by rfl) <| SJ.sr 4 <| OJ.kld (d := 55) (y := .tmp 11) (cd := c_api_IP) (j := 0) (b := b10) (o := 0) s12 (pend2 := []) Ty28 rfl (At.whole _) rfl ?_
  refine OJ.kst (y := .tmp 2) (z := .tmp 55) (cd := c_api_IP) (u := s12) (j := 1) (b := b1) (o := 0) (c_api_IP.enc s12) (owed := []) Ty28 rfl (Upd.whole ((Cod.len _ _).trans (Cod.len _ _).symm)) rfl ?_
  exact OW.nil <| OJ.go 2 [(4, .int .i64 0), (3, .int .i64 0)] <| OJ.nil <| SJ.ret rfl (Res.run (ys := [c_api_IP.val s12, .int .i64 0, .int .i64 0]) (.cell (j := 1) (b := b1) (cd := c_api_IP) (q := s12) (by kernel_rfl) rfl Ty28 (At.whole _) (.tmp (by kernel_rfl) (.tmp (by kernel_rfl) .nil))) rfl)
noncomputable def weirref4_ParseIP (a0 : ByteArray) : M (api_IP × Int × Int) :=
 slot 28 >>= fun b1 =>
 if (a0.size : Int) > 45 then
  pure (z_api_IP, 2, 45)
 else
  weirref4_has a0 58 >>= fun r2 =>
  if r2 = true then
   weirref4_sixes a0 >>= fun r6 =>
   slot 26 >>= fun b7 =>
   if r6.2.1 ≠ 0 then
    pure (z_api_IP, r6.2.1, r6.2.2)
   else
    pure ((⟨6, r6.1⟩ : api_IP), 0, 0)
  else
   weirref4_dotted a0 0 >>= fun r9 =>
   if r9.2.1 ≠ 0 then
    pure (z_api_IP, r9.2.1, r9.2.2)
   else
    slot 28 >>= fun b10 =>
    loopM (fun s_ : (Int × api_IP) => weirref4_ParseIP.L1 r9 s_.1 s_.2) (0, (⟨4, z_api_IP.A⟩ : api_IP))
theorem weirref4_ParseIP_ok (a0 : ByteArray) : Ref Tryd.prog 81 [.string a0] (weirref4_ParseIP a0) weirref4_ParseIP.out := by
 refine Ref.of (cd := weirref4_ParseIP.B) Tryd.func81 ?_
 show SJ weirref4_ParseIP.cx [.code weirref4_ParseIP.B] [(0, .string a0)] [] (weirref4_ParseIP a0) weirref4_ParseIP.F0
 unfold weirref4_ParseIP
 refine SJ.sr 3 <| OJ.slotOf (d := 2) (op := (.alloc 28)) (cd := c_api_IP) (u := z_api_IP) (owed := []) (alloc_run Ty28) (fun b1 => ?_)
 refine OW.nil <| OJ.go 2 [(4, .int .i64 0), (3, .int .i64 0)] <| OJ.nil <| SJ.seq <| SJ.sr 3 <| OJ.go 3 [(15, .bool (decide ((a0.size : Int) > 45))), (14, .int .i64 (a0.size : Int)), (13, .string a0)] <| OJ.nil <| SJ.cond (t := (.tmp 15)) (b := decide ((a0.size : Int) > 45)) decide_eq_true_iff (fun hc25 => ?_) (fun hc25 => ?_)
 ·refine SJ.sr 4 <| OJ.build (d := 16) (T := 28) (parts := []) (ps := []) (cd := c_api_IP) (z0 := z_api_IP) z_api_IP Ty28 rfl Filled.nil ?_
  refine OJ.kst (y := .tmp 2) (z := .tmp 16) (cd := c_api_IP) (u := z_api_IP) (j := 0) (b := b1) (o := 0) (c_api_IP.enc z_api_IP) (owed := []) Ty28 rfl (Upd.whole ((Cod.len _ _).trans (Cod.len _ _).symm)) rfl ?_
  exact OW.nil <| OJ.go 2 [(4, .int .i64 45), (3, .int .i64 2)] <| OJ.nil <| SJ.ret rfl (Res.run (ys := [c_api_IP.val z_api_IP, .int .i64 2, .int .i64 45]) (.cell (j := 0) (b := b1) (cd := c_api_IP) (q := z_api_IP) (by kernel_rfl) rfl Ty28 (At.whole _) (.tmp (by kernel_rfl) (.tmp (by kernel_rfl) .nil))) rfl)
 ·refine SJ.skip <| SJ.seq <| SJ.sr 2 <| OJ.go 1 [(17, .string a0)] <| OJ.call (d := 18) (g := 90) (ats := #[9, 5]) (args := [.tmp 17, .const (.int .u8 58)]) (owed := []) F90 (weirref4_has_ok a0 58) (fun r2 => ?_)
  refine OW.nil <| OJ.nil <| SJ.cond (t := (.tmp 18)) (b := r2) Iff.rfl (fun hc24 => ?_) (fun hc24 => ?_)
  ·refine SJ.sr 10 <| OJ.go 1 [(20, .string a0)] <| OJ.call (d := 21) (g := 91) (ats := #[9]) (args := [.tmp 20]) (owed := []) F91 (weirref4_sixes_ok a0) (fun r6 => ?_)
   refine OW.nil <| OJ.go 4 [(24, .int .i64 r6.2.2), (23, .int .i64 r6.2.1), (22, ((cI .u8).arr 16).val r6.1), (19, .tuple #[((cI .u8).arr 16).val r6.1, .int .i64 r6.2.1, .int .i64 r6.2.2])] <| OJ.slotOf (d := 5) (op := (.alloc 26)) (cd := ((cI .u8).arr 16)) (u := (Vec.rep 16 0)) (owed := []) (alloc_run Ty26) (fun b7 => ?_)
   refine OW.nil <| OJ.kst (y := .tmp 5) (z := .tmp 22) (cd := ((cI .u8).arr 16)) (u := r6.1) (j := 0) (b := b7) (o := 0) (((cI .u8).arr 16).enc r6.1) (owed := []) Ty26 rfl (Upd.whole ((Cod.len _ _).trans (Cod.len _ _).symm)) rfl ?_
   refine OW.nil <| OJ.go 2 [(7, .int .i64 r6.2.2), (6, .int .i64 r6.2.1)] <| OJ.nil <| SJ.seq <| SJ.sr 2 <| OJ.go 2 [(26, .bool (r6.2.1 != 0)), (25, .int .i64 r6.2.1)] <| OJ.nil <| SJ.cond (t := (.tmp 26)) (b := (r6.2.1 != 0)) bne_iff_ne (fun hc8 => ?_) (fun hc8 => ?_)
   ·refine SJ.sr 6 <| OJ.build (d := 27) (T := 28) (parts := []) (ps := []) (cd := c_api_IP) (z0 := z_api_IP) z_api_IP Ty28 rfl Filled.nil ?_
    refine OJ.go 2 [(29, .int .i64 r6.2.2), (28, .int .i64 r6.2.1)] <| OJ.kst (y := .tmp 2) (z := .tmp 27) (cd := c_api_IP) (u := z_api_IP) (j := 1) (b := b1) (o := 0) (c_api_IP.enc z_api_IP) (owed := []) Ty28 rfl (Upd.whole ((Cod.len _ _).trans (Cod.len _ _).symm)) rfl ?_
    exact OW.nil <| OJ.go 2 [(4, .int .i64 r6.2.2), (3, .int .i64 r6.2.1)] <| OJ.nil <| SJ.ret rfl (Res.run (ys := [c_api_IP.val z_api_IP, .int .i64 r6.2.1, .int .i64 r6.2.2]) (.cell (j := 1) (b := b1) (cd := c_api_IP) (q := z_api_IP) (by kernel_rfl) rfl Ty28 (At.whole _) (.tmp (by kernel_rfl) (.tmp (by kernel_rfl) .nil))) rfl)
   ·refine SJ.skip <| SJ.sr 5 <| OJ.kld (d := 30) (y := .tmp 5) (cd := ((cI .u8).arr 16)) (j := 0) (b := b7) (o := 0) r6.1 (pend2 := []) Ty26 rfl (At.whole _) rfl ?_
    refine OJ.build (d := 31) (T := 28) (parts := [(0, .const (.int .i64 6)), (1, .tmp 30)]) (ps := [(0, (cI .i64).val 6), (1, ((cI .u8).arr 16).val r6.1)]) (cd := c_api_IP) (z0 := z_api_IP) (⟨6, r6.1⟩ : api_IP) Ty28 rfl (Filled.cons (cd := (cI .i64)) (q := 6) (o := 0) (by kernel_rfl) (Up_api_IP_V z_api_IP 6) (Filled.cons (cd := ((cI .u8).arr 16)) (q := r6.1) (o := 1) (by kernel_rfl) (Up_api_IP_A (⟨6, z_api_IP.A⟩ : api_IP) r6.1) Filled.nil)) ?_
    refine OJ.kst (y := .tmp 2) (z := .tmp 31) (cd := c_api_IP) (u := (⟨6, r6.1⟩ : api_IP)) (j := 1) (b := b1) (o := 0) (c_api_IP.enc (⟨6, r6.1⟩ : api_IP)) (owed := []) Ty28 rfl (Upd.whole ((Cod.len _ _).trans (Cod.len _ _).symm)) rfl ?_
    exact OW.nil <| OJ.go 2 [(4, .int .i64 0), (3, .int .i64 0)] <| OJ.nil <| SJ.ret rfl (Res.run (ys := [c_api_IP.val (⟨6, r6.1⟩ : api_IP), .int .i64 0, .int .i64 0]) (.cell (j := 1) (b := b1) (cd := c_api_IP) (q := (⟨6, r6.1⟩ : api_IP)) (by kernel_rfl) rfl Ty28 (At.whole _) (.tmp (by kernel_rfl) (.tmp (by kernel_rfl) .nil))) rfl)
  ·refine SJ.skip <| SJ.sr 9 <| OJ.go 1 [(33, .string a0)] <| OJ.call (d := 34) (g := 92) (ats := #[9, 3]) (args := [.tmp 33, .const (.int .i64 0)]) (owed := []) F92 (weirref4_dotted_ok a0 0) (fun r9 => ?_)
   refine OW.nil <| OJ.go 7 [(10, .int .i64 r9.2.2), (9, .int .i64 r9.2.1), (8, Sl.v r9.1), (37, .int .i64 r9.2.2), (36, .int .i64 r9.2.1), (35, Sl.v r9.1), (32, .tuple #[Sl.v r9.1, .int .i64 r9.2.1, .int .i64 r9.2.2])] <| OJ.nil <| SJ.seq <| SJ.sr 2 <| OJ.go 2 [(39, .bool (r9.2.1 != 0)), (38, .int .i64 r9.2.1)] <| OJ.nil <| SJ.cond (t := (.tmp 39)) (b := (r9.2.1 != 0)) bne_iff_ne (fun hc23 => ?_) (fun hc23 => ?_)
   ·refine SJ.sr 6 <| OJ.build (d := 40) (T := 28) (parts := []) (ps := []) (cd := c_api_IP) (z0 := z_api_IP) z_api_IP Ty28 rfl Filled.nil ?_
    refine OJ.go 2 [(42, .int .i64 r9.2.2), (41, .int .i64 r9.2.1)] <| OJ.kst (y := .tmp 2) (z := .tmp 40) (cd := c_api_IP) (u := z_api_IP) (j := 0) (b := b1) (o := 0) (c_api_IP.enc z_api_IP) (owed := []) Ty28 rfl (Upd.whole ((Cod.len _ _).trans (Cod.len _ _).symm)) rfl ?_
    exact OW.nil <| OJ.go 2 [(4, .int .i64 r9.2.2), (3, .int .i64 r9.2.1)] <| OJ.nil <| SJ.ret rfl (Res.run (ys := [c_api_IP.val z_api_IP, .int .i64 r9.2.1, .int .i64 r9.2.2]) (.cell (j := 0) (b := b1) (cd := c_api_IP) (q := z_api_IP) (by kernel_rfl) rfl Ty28 (At.whole _) (.tmp (by kernel_rfl) (.tmp (by kernel_rfl) .nil))) rfl)
   ·refine SJ.skip <| SJ.sr 3 <| OJ.build (d := 43) (T := 28) (parts := [(0, .const (.int .i64 4))]) (ps := [(0, (cI .i64).val 4)]) (cd := c_api_IP) (z0 := z_api_IP) (⟨4, z_api_IP.A⟩ : api_IP) Ty28 rfl (Filled.cons (cd := (cI .i64)) (q := 4) (o := 0) (by kernel_rfl) (Up_api_IP_V z_api_IP 4) Filled.nil) ?_
    refine OJ.slotOf (d := 11) (op := (.alloc 28)) (cd := c_api_IP) (u := z_api_IP) (owed := []) (alloc_run Ty28) (fun b10 => ?_)
    refine OW.nil <| OJ.kst (y := .tmp 11) (z := .tmp 43) (cd := c_api_IP) (u := (⟨4, z_api_IP.A⟩ : api_IP)) (j := 0) (b := b10) (o := 0) (c_api_IP.enc (⟨4, z_api_IP.A⟩ : api_IP)) (owed := []) Ty28 rfl (Upd.whole ((Cod.len _ _).trans (Cod.len _ _).symm)) rfl ?_
    exact OW.nil <| OJ.nil <| SJ.seq <| SJ.sr 1 <| OJ.go 1 [(12, .int .i64 0)] <| OJ.nil <| SJ.block (id := 0) <| SJ.loop (fun s_ : (Int × api_IP) => [(2, .pointer (some (pt b1 0))), (8, Sl.v r9.1), (11, .pointer (some (pt b10 0))), (12, .int .i64 s_.1)]) (fun s_ : (Int × api_IP) => [(b10, c_api_IP.enc s_.2), (b1, c_api_IP.enc z_api_IP)]) [2, 8, 11, 12] rfl (fun _ _ => rfl) (fun s_ => weirref4_ParseIP.L1_ok b1 r9 b10 s_.1 s_.2)

/-! ### weir/weirref4.ParsePrefix: function 69 -/
noncomputable def weirref4_ParsePrefix.B : Code := (Tryd.f69.body).getD .skip
noncomputable def weirref4_ParsePrefix.cx : Fx := ⟨Tryd.prog, 69, Tryd.f69, none⟩
noncomputable def weirref4_ParsePrefix.out (r_ : (api_Prefix × Int × Int)) : Value := .tuple #[c_api_Prefix.val r_.1, .int .i64 r_.2.1, .int .i64 r_.2.2]
noncomputable def weirref4_ParsePrefix.F0 (r_ : (api_Prefix × Int × Int)) : Reach := .ret (weirref4_ParsePrefix.out r_)
noncomputable def weirref4_ParsePrefix.K1 (a0 : ByteArray) (s2 : Int) (r7 : (api_IP × Int × Int)) (s9 : Int) : M (api_Prefix × Int × Int) :=
 if s9 = (IntKind.wrap .i64 (s2 + 1)) then
  weirref4_here a0 s9 >>= fun r16 =>
  pure (z_api_Prefix, r16.1, r16.2)
 else
  weirref4_width r7.1 >>= fun r17 =>
  weirref4_decimal a0 (IntKind.wrap .i64 (s2 + 1)) s9 r17 >>= fun r18 =>
  if r18 < 0 then
   pure (z_api_Prefix, 45, IntKind.wrap .i64 (s2 + 1))
  else
   if s9 < (a0.size : Int) then
    pure (z_api_Prefix, 41, s9)
   else
    slot 30 >>= fun b19 =>
    weirref4_ValidPrefix (⟨r7.1, r18⟩ : api_Prefix) >>= fun r20 =>
    if r20 ≠ 0 then
     pure (z_api_Prefix, 46, 0)
    else
     pure ((⟨r7.1, r18⟩ : api_Prefix), 0, 0)
theorem weirref4_ParsePrefix.K1_ok (a0 : ByteArray) (b1 : Nat) (s2 : Int) (r7 : (api_IP × Int × Int)) (b8 : Nat) (s9 : Int) :
  SJ weirref4_ParsePrefix.cx [.code (c2 (c2 (c2 (c2 (c2 (c2 (c2 (c2 (c2 weirref4_ParsePrefix.B)))))))))] [(0, .string a0), (2, .pointer (some (pt b1 0))), (5, .int .i64 s2), (6, .pointer (some (pt b8 0))), (9, .int .i64 s9)] [(b8, c_api_IP.enc r7.1), (b1, c_api_Prefix.enc z_api_Prefix)] (weirref4_ParsePrefix.K1 a0 s2 r7 s9) weirref4_ParsePrefix.F0 := by
 unfold weirref4_ParsePrefix.K1
 refine SJ.seq <| SJ.sr 4 <| OJ.go 4 [(67, .bool (s9 == (IntKind.wrap .i64 (s2 + 1)))), (66, .int .i64 (IntKind.wrap .i64 (s2 + 1))), (65, .int .i64 s2), (64, .int .i64 s9)] <| OJ.nil <| SJ.cond (t := (.tmp 67)) (b := (s9 == (IntKind.wrap .i64 (s2 + 1)))) beq_iff_eq (fun hc24 => ?_) (fun hc24 => ?_)
 ·refine SJ.sr 8 <| OJ.go 2 [(70, .int .i64 s9), (69, .string a0)] <| OJ.call (d := 71) (g := 83) (ats := #[9, 3]) (args := [.tmp 69, .tmp 70]) (owed := []) F83 (weirref4_here_ok a0 s9) (fun r16 => ?_)
  refine OW.nil <| OJ.go 5 [(11, .int .i64 r16.2), (10, .int .i64 r16.1), (73, .int .i64 r16.2), (72, .int .i64 r16.1), (68, .tuple #[.int .i64 r16.1, .int .i64 r16.2])] <| OJ.nil <| SJ.sr 6 <| OJ.build (d := 74) (T := 30) (parts := []) (ps := []) (cd := c_api_Prefix) (z0 := z_api_Prefix) z_api_Prefix Ty30 rfl Filled.nil ?_
  refine OJ.go 2 [(76, .int .i64 r16.2), (75, .int .i64 r16.1)] <| OJ.kst (y := .tmp 2) (z := .tmp 74) (cd := c_api_Prefix) (u := z_api_Prefix) (j := 1) (b := b1) (o := 0) (c_api_Prefix.enc z_api_Prefix) (owed := []) Ty30 rfl (Upd.whole ((Cod.len _ _).trans (Cod.len _ _).symm)) rfl ?_
  exact OW.nil <| OJ.go 2 [(4, .int .i64 r16.2), (3, .int .i64 r16.1)] <| OJ.nil <| SJ.ret rfl (Res.run (ys := [c_api_Prefix.val z_api_Prefix, .int .i64 r16.1, .int .i64 r16.2]) (.cell (j := 1) (b := b1) (cd := c_api_Prefix) (q := z_api_Prefix) (by kernel_rfl) rfl Ty30 (At.whole _) (.tmp (by kernel_rfl) (.tmp (by kernel_rfl) .nil))) rfl)
 ·refine SJ.skip <| SJ.sr 8 <| OJ.go 4 [(80, .int .i64 s9), (79, .int .i64 (IntKind.wrap .i64 (s2 + 1))), (78, .int .i64 s2), (77, .string a0)] <| OJ.kld (d := 81) (y := .tmp 6) (cd := c_api_IP) (j := 0) (b := b8) (o := 0) r7.1 (pend2 := []) Ty28 rfl (At.whole _) rfl ?_
  refine OJ.call (d := 82) (g := 53) (ats := #[28]) (args := [.tmp 81]) (owed := []) F53 (weirref4_width_ok r7.1) (fun r17 => ?_)
  refine OW.nil <| OJ.call (d := 83) (g := 84) (ats := #[9, 3, 3, 3]) (args := [.tmp 77, .tmp 79, .tmp 80, .tmp 82]) (owed := []) F84 (weirref4_decimal_ok a0 (IntKind.wrap .i64 (s2 + 1)) s9 r17) (fun r18 => ?_)
  refine OW.nil <| OJ.go 1 [(12, .int .i64 r18)] <| OJ.nil <| SJ.seq <| SJ.sr 2 <| OJ.go 2 [(85, .bool (decide (r18 < 0))), (84, .int .i64 r18)] <| OJ.nil <| SJ.cond (t := (.tmp 85)) (b := decide (r18 < 0)) decide_eq_true_iff (fun hc23 => ?_) (fun hc23 => ?_)
  ·refine SJ.sr 6 <| OJ.build (d := 86) (T := 30) (parts := []) (ps := []) (cd := c_api_Prefix) (z0 := z_api_Prefix) z_api_Prefix Ty30 rfl Filled.nil ?_
   refine OJ.go 2 [(88, .int .i64 (IntKind.wrap .i64 (s2 + 1))), (87, .int .i64 s2)] <| OJ.kst (y := .tmp 2) (z := .tmp 86) (cd := c_api_Prefix) (u := z_api_Prefix) (j := 1) (b := b1) (o := 0) (c_api_Prefix.enc z_api_Prefix) (owed := []) Ty30 rfl (Upd.whole ((Cod.len _ _).trans (Cod.len _ _).symm)) rfl ?_
   exact OW.nil <| OJ.go 2 [(4, .int .i64 (IntKind.wrap .i64 (s2 + 1))), (3, .int .i64 45)] <| OJ.nil <| SJ.ret rfl (Res.run (ys := [c_api_Prefix.val z_api_Prefix, .int .i64 45, .int .i64 (IntKind.wrap .i64 (s2 + 1))]) (.cell (j := 1) (b := b1) (cd := c_api_Prefix) (q := z_api_Prefix) (by kernel_rfl) rfl Ty30 (At.whole _) (.tmp (by kernel_rfl) (.tmp (by kernel_rfl) .nil))) rfl)
  ·refine SJ.skip <| SJ.seq <| SJ.sr 4 <| OJ.go 4 [(92, .bool (decide (s9 < (a0.size : Int)))), (91, .int .i64 (a0.size : Int)), (90, .string a0), (89, .int .i64 s9)] <| OJ.nil <| SJ.cond (t := (.tmp 92)) (b := decide (s9 < (a0.size : Int))) decide_eq_true_iff (fun hc22 => ?_) (fun hc22 => ?_)
   ·refine SJ.sr 5 <| OJ.build (d := 93) (T := 30) (parts := []) (ps := []) (cd := c_api_Prefix) (z0 := z_api_Prefix) z_api_Prefix Ty30 rfl Filled.nil ?_
    refine OJ.go 1 [(94, .int .i64 s9)] <| OJ.kst (y := .tmp 2) (z := .tmp 93) (cd := c_api_Prefix) (u := z_api_Prefix) (j := 1) (b := b1) (o := 0) (c_api_Prefix.enc z_api_Prefix) (owed := []) Ty30 rfl (Upd.whole ((Cod.len _ _).trans (Cod.len _ _).symm)) rfl ?_
    exact OW.nil <| OJ.go 2 [(4, .int .i64 s9), (3, .int .i64 41)] <| OJ.nil <| SJ.ret rfl (Res.run (ys := [c_api_Prefix.val z_api_Prefix, .int .i64 41, .int .i64 s9]) (.cell (j := 1) (b := b1) (cd := c_api_Prefix) (q := z_api_Prefix) (by kernel_rfl) rfl Ty30 (At.whole _) (.tmp (by kernel_rfl) (.tmp (by kernel_rfl) .nil))) rfl)
   ·refine SJ.skip <| SJ.sr 5 <| OJ.kld (d := 95) (y := .tmp 6) (cd := c_api_IP) (j := 0) (b := b8) (o := 0) r7.1 (pend2 := []) Ty28 rfl (At.whole _) rfl ?_
    refine OJ.go 1 [(96, .int .i64 r18)] <| OJ.build (d := 97) (T := 30) (parts := [(0, .tmp 95), (1, .tmp 96)]) (ps := [(0, c_api_IP.val r7.1), (1, (cI .i64).val r18)]) (cd := c_api_Prefix) (z0 := z_api_Prefix) (⟨r7.1, r18⟩ : api_Prefix) Ty30 rfl (Filled.cons (cd := c_api_IP) (q := r7.1) (o := 0) (by kernel_rfl) (Up_api_Prefix_IP z_api_Prefix r7.1) (Filled.cons (cd := (cI .i64)) (q := r18) (o := 17) (by kernel_rfl) (Up_api_Prefix_Len (⟨r7.1, z_api_Prefix.Len⟩ : api_Prefix) r18) Filled.nil)) ?_
    refine OJ.slotOf (d := 13) (op := (.alloc 30)) (cd := c_api_Prefix) (u := z_api_Prefix) (owed := []) (alloc_run Ty30) (fun b19 => ?_)
    refine OW.nil <| OJ.kst (y := .tmp 13) (z := .tmp 97) (cd := c_api_Prefix) (u := (⟨r7.1, r18⟩ : api_Prefix)) (j := 0) (b := b19) (o := 0) (c_api_Prefix.enc (⟨r7.1, r18⟩ : api_Prefix)) (owed := []) Ty30 rfl (Upd.whole ((Cod.len _ _).trans (Cod.len _ _).symm)) rfl ?_
    refine OW.nil <| OJ.nil <| SJ.seq <| SJ.sr 3 <| OJ.kld (d := 98) (y := .tmp 13) (cd := c_api_Prefix) (j := 0) (b := b19) (o := 0) (⟨r7.1, r18⟩ : api_Prefix) (pend2 := []) Ty30 rfl (At.whole _) rfl ?_
    refine OJ.call (d := 99) (g := 34) (ats := #[30]) (args := [.tmp 98]) (owed := []) F34 (weirref4_ValidPrefix_ok (⟨r7.1, r18⟩ : api_Prefix)) (fun r20 => ?_)
    refine OW.nil <| OJ.go 1 [(100, .bool (r20 != 0))] <| OJ.nil <| SJ.cond (t := (.tmp 100)) (b := (r20 != 0)) bne_iff_ne (fun hc21 => ?_) (fun hc21 => ?_)
    ·refine SJ.sr 4 <| OJ.build (d := 101) (T := 30) (parts := []) (ps := []) (cd := c_api_Prefix) (z0 := z_api_Prefix) z_api_Prefix Ty30 rfl Filled.nil ?_
     refine OJ.kst (y := .tmp 2) (z := .tmp 101) (cd := c_api_Prefix) (u := z_api_Prefix) (j := 2) (b := b1) (o := 0) (c_api_Prefix.enc z_api_Prefix) (owed := []) Ty30 rfl (Upd.whole ((Cod.len _ _).trans (Cod.len _ _).symm)) rfl ?_
     exact OW.nil <| OJ.go 2 [(4, .int .i64 0), (3, .int .i64 46)] <| OJ.nil <| SJ.ret rfl (Res.run (ys := [c_api_Prefix.val z_api_Prefix, .int .i64 46, .int .i64 0]) (.cell (j := 2) (b := b1) (cd := c_api_Prefix) (q := z_api_Prefix) (by kernel_rfl) rfl Ty30 (At.whole _) (.tmp (by kernel_rfl) (.tmp (by kernel_rfl) .nil))) rfl)
    ·refine SJ.skip <| SJ.sr 4 <| OJ.kld (d := 102) (y := .tmp 13) (cd := c_api_Prefix) (j := 0) (b := b19) (o := 0) (⟨r7.1, r18⟩ : api_Prefix) (pend2 := []) Ty30 rfl (At.whole _) rfl ?_
     refine OJ.kst (y := .tmp 2) (z := .tmp 102) (cd := c_api_Prefix) (u := (⟨r7.1, r18⟩ : api_Prefix)) (j := 2) (b := b1) (o := 0) (c_api_Prefix.enc (⟨r7.1, r18⟩ : api_Prefix)) (owed := []) Ty30 rfl (Upd.whole ((Cod.len _ _).trans (Cod.len _ _).symm)) rfl ?_
     exact OW.nil <| OJ.go 2 [(4, .int .i64 0), (3, .int .i64 0)] <| OJ.nil <| SJ.ret rfl (Res.run (ys := [c_api_Prefix.val (⟨r7.1, r18⟩ : api_Prefix), .int .i64 0, .int .i64 0]) (.cell (j := 2) (b := b1) (cd := c_api_Prefix) (q := (⟨r7.1, r18⟩ : api_Prefix)) (by kernel_rfl) rfl Ty30 (At.whole _) (.tmp (by kernel_rfl) (.tmp (by kernel_rfl) .nil))) rfl)
noncomputable def weirref4_ParsePrefix.F1 (a0 : ByteArray) (b1 : Nat) (s2 : Int) (r7 : (api_IP × Int × Int)) (b8 : Nat) : (LS Int (api_Prefix × Int × Int)) → Reach := loopF [.inLoop (c1 (c1 (c1 (c2 (c2 (c2 (c2 (c2 (c2 (c2 (c2 weirref4_ParsePrefix.B))))))))))), .inBlock 2, .code (c2 (c2 (c2 (c2 (c2 (c2 (c2 (c2 (c2 weirref4_ParsePrefix.B)))))))))] (fun s_ : Int => [(0, .string a0), (2, .pointer (some (pt b1 0))), (5, .int .i64 s2), (6, .pointer (some (pt b8 0))), (9, .int .i64 s_)]) (fun s_ : Int => [(b8, c_api_IP.enc r7.1), (b1, c_api_Prefix.enc z_api_Prefix)]) weirref4_ParsePrefix.F0
noncomputable def weirref4_ParsePrefix.L1 (a0 : ByteArray) (s2 : Int) (r7 : (api_IP × Int × Int)) (s9 : Int) : M (LS Int (api_Prefix × Int × Int)) :=
 (if s9 < (a0.size : Int) then
   chk ((0 : Int) ≤ s9 ∧ s9 < (a0.size : Int)) >>= fun _ =>
   weirref4_digit (sb a0 s9) >>= fun r27 =>
   pure r27
  else
   pure false) >>= fun y28 =>
 if y28 = true then
  pure (LS.next (IntKind.wrap .i64 (s9 + 1)))
 else
  (weirref4_ParsePrefix.K1 a0 s2 r7 s9) >>= fun b => pure (LS.done b)
theorem weirref4_ParsePrefix.L1_ok (a0 : ByteArray) (b1 : Nat) (s2 : Int) (r7 : (api_IP × Int × Int)) (b8 : Nat) (s9 : Int) :
  SJ weirref4_ParsePrefix.cx [.code (c1 (c1 (c1 (c2 (c2 (c2 (c2 (c2 (c2 (c2 (c2 weirref4_ParsePrefix.B))))))))))), .inLoop (c1 (c1 (c1 (c2 (c2 (c2 (c2 (c2 (c2 (c2 (c2 weirref4_ParsePrefix.B))))))))))), .inBlock 2, .code (c2 (c2 (c2 (c2 (c2 (c2 (c2 (c2 (c2 weirref4_ParsePrefix.B)))))))))] [(0, .string a0), (2, .pointer (some (pt b1 0))), (5, .int .i64 s2), (6, .pointer (some (pt b8 0))), (9, .int .i64 s9)] [(b8, c_api_IP.enc r7.1), (b1, c_api_Prefix.enc z_api_Prefix)] (weirref4_ParsePrefix.L1 a0 s2 r7 s9) (weirref4_ParsePrefix.F1 a0 b1 s2 r7 b8) := by
 unfold weirref4_ParsePrefix.L1
 refine SJ.seq <| SJ.sr 10 <| OJ.go 5 [(56, .bool (decide (s9 < (a0.size : Int)))), (55, .bool (decide (s9 < (a0.size : Int)))), (54, .int .i64 (a0.size : Int)), (53, .string a0), (52, .int .i64 s9)] <| OJ.join (b := decide (s9 < (a0.size : Int))) [5, 6, 7, 8, 9] [] [0, 2, 5, 6, 9, 61] (fun y28 => [(0, .string a0), (2, .pointer (some (pt b1 0))), (5, .int .i64 s2), (6, .pointer (some (pt b8 0))), (9, .int .i64 s9), (61, .bool y28)]) [] [] (t := 56) decide_eq_true_iff (fun hp_ => ?_) (fun hp_ => ?_) (fun _ _ _ _ _ _ h_ => h_) (fun y28 => ?_)
 ·refine OJ.go 2 [(58, .int .i64 s9), (57, .string a0)] <| OJ.idxT (d := 59) (T := 9) (y := .tmp 57) (j := .tmp 58) (k := .i64) (fun hb25 hb26 => ?_)
  refine OJ.call (d := 60) (g := 82) (ats := #[5]) (args := [.tmp 59]) (owed := []) F82 (weirref4_digit_ok (sb a0 s9)) (fun r27 => ?_)
  exact OW.nil <| OJ.go 1 [(61, .bool r27)] <| OJ.x0
 ·exact OJ.go 5 [(61, .bool false), (60, undef), (59, undef), (58, undef), (57, undef)] <| OJ.x0
 ·refine OJ.nil <| SJ.cond (t := (.tmp 61)) (b := y28) Iff.rfl (fun hc29 => ?_) (fun hc29 => ?_)
  ·exact SJ.skip <| SJ.block (id := 3) <| SJ.rg 3 <| OJ.go 3 [(9, .int .i64 (IntKind.wrap .i64 (s9 + 1))), (63, .int .i64 (IntKind.wrap .i64 (s9 + 1))), (62, .int .i64 s9)] <| OJ.nil <| SJ.inBlock <| SJ.at_ [0, 2, 5, 6, 9] rfl
  ·refine SJ.exit (id := 2) (by rfl) <| SJ.less [0, 2, 5, 6, 9] (m' := [(0, .string a0), (2, .pointer (some (pt b1 0))), (5, .int .i64 s2), (6, .pointer (some (pt b8 0))), (9, .int .i64 s9)]) ?_
   refine SJ.done ?_
   exact weirref4_ParsePrefix.K1_ok a0 b1 s2 r7 b8 s9
noncomputable def weirref4_ParsePrefix.K2 (a0 : ByteArray) (s2 : Int) : M (api_Prefix × Int × Int) :=
 if s2 = (a0.size : Int) then
  pure (z_api_Prefix, 42, (a0.size : Int))
 else
  chk (0 ≤ (0 : Int) ∧ (0 : Int) ≤ s2 ∧ s2 ≤ (a0.size : Int)) >>= fun _ =>
  weirref4_ParseIP (ByteArray.extract a0 (Int.toNat 0) (Int.toNat s2)) >>= fun r7 =>
  slot 28 >>= fun b8 =>
  if r7.2.1 ≠ 0 then
   pure (z_api_Prefix, r7.2.1, r7.2.2)
  else
   loopM (fun s_ : Int => weirref4_ParsePrefix.L1 a0 s2 r7 s_) (IntKind.wrap .i64 (s2 + 1))
theorem weirref4_ParsePrefix.K2_ok (a0 : ByteArray) (b1 : Nat) (s2 : Int) :
  SJ weirref4_ParsePrefix.cx [.code (c2 (c2 (c2 (c2 weirref4_ParsePrefix.B))))] [(0, .string a0), (2, .pointer (some (pt b1 0))), (5, .int .i64 s2)] [(b1, c_api_Prefix.enc z_api_Prefix)] (weirref4_ParsePrefix.K2 a0 s2) weirref4_ParsePrefix.F0 := by
 unfold weirref4_ParsePrefix.K2
 refine SJ.seq <| SJ.sr 4 <| OJ.go 4 [(33, .bool (s2 == (a0.size : Int))), (32, .int .i64 (a0.size : Int)), (31, .string a0), (30, .int .i64 s2)] <| OJ.nil <| SJ.cond (t := (.tmp 33)) (b := (s2 == (a0.size : Int))) beq_iff_eq (fun hc31 => ?_) (fun hc31 => ?_)
 ·refine SJ.sr 6 <| OJ.build (d := 34) (T := 30) (parts := []) (ps := []) (cd := c_api_Prefix) (z0 := z_api_Prefix) z_api_Prefix Ty30 rfl Filled.nil ?_
  refine OJ.go 2 [(36, .int .i64 (a0.size : Int)), (35, .string a0)] <| OJ.kst (y := .tmp 2) (z := .tmp 34) (cd := c_api_Prefix) (u := z_api_Prefix) (j := 0) (b := b1) (o := 0) (c_api_Prefix.enc z_api_Prefix) (owed := []) Ty30 rfl (Upd.whole ((Cod.len _ _).trans (Cod.len _ _).symm)) rfl ?_
  exact OW.nil <| OJ.go 2 [(4, .int .i64 (a0.size : Int)), (3, .int .i64 42)] <| OJ.nil <| SJ.ret rfl (Res.run (ys := [c_api_Prefix.val z_api_Prefix, .int .i64 42, .int .i64 (a0.size : Int)]) (.cell (j := 0) (b := b1) (cd := c_api_Prefix) (q := z_api_Prefix) (by kernel_rfl) rfl Ty30 (At.whole _) (.tmp (by kernel_rfl) (.tmp (by kernel_rfl) .nil))) rfl)
 ·refine SJ.skip <| SJ.sr 12 <| OJ.go 2 [(39, .int .i64 s2), (38, .string a0)] <| OJ.cutT (d := 40) (t := 9) (y := .tmp 38) (lo := none) (hi := (some (.tmp 39))) (lo' := none) (hi' := some (.i64, s2)) ?_
  refine OJ.call (d := 41) (g := 81) (ats := #[9]) (args := [.tmp 40]) (owed := []) F81 (weirref4_ParseIP_ok (ByteArray.extract a0 (Int.toNat 0) (Int.toNat s2))) (fun r7 => ?_)
  refine OW.nil <| OJ.go 4 [(44, .int .i64 r7.2.2), (43, .int .i64 r7.2.1), (42, c_api_IP.val r7.1), (37, .tuple #[c_api_IP.val r7.1, .int .i64 r7.2.1, .int .i64 r7.2.2])] <| OJ.slotOf (d := 6) (op := (.alloc 28)) (cd := c_api_IP) (u := z_api_IP) (owed := []) (alloc_run Ty28) (fun b8 => ?_)
  refine OW.nil <| OJ.kst (y := .tmp 6) (z := .tmp 42) (cd := c_api_IP) (u := r7.1) (j := 0) (b := b8) (o := 0) (c_api_IP.enc r7.1) (owed := []) Ty28 rfl (Upd.whole ((Cod.len _ _).trans (Cod.len _ _).symm)) rfl ?_
  refine OW.nil <| OJ.go 2 [(8, .int .i64 r7.2.2), (7, .int .i64 r7.2.1)] <| OJ.nil <| SJ.seq <| SJ.sr 2 <| OJ.go 2 [(46, .bool (r7.2.1 != 0)), (45, .int .i64 r7.2.1)] <| OJ.nil <| SJ.cond (t := (.tmp 46)) (b := (r7.2.1 != 0)) bne_iff_ne (fun hc30 => ?_) (fun hc30 => ?_)
  ·refine SJ.sr 6 <| OJ.build (d := 47) (T := 30) (parts := []) (ps := []) (cd := c_api_Prefix) (z0 := z_api_Prefix) z_api_Prefix Ty30 rfl Filled.nil ?_
   refine OJ.go 2 [(49, .int .i64 r7.2.2), (48, .int .i64 r7.2.1)] <| OJ.kst (y := .tmp 2) (z := .tmp 47) (cd := c_api_Prefix) (u := z_api_Prefix) (j := 1) (b := b1) (o := 0) (c_api_Prefix.enc z_api_Prefix) (owed := []) Ty30 rfl (Upd.whole ((Cod.len _ _).trans (Cod.len _ _).symm)) rfl ?_
   exact OW.nil <| OJ.go 2 [(4, .int .i64 r7.2.2), (3, .int .i64 r7.2.1)] <| OJ.nil <| SJ.ret rfl (Res.run (ys := [c_api_Prefix.val z_api_Prefix, .int .i64 r7.2.1, .int .i64 r7.2.2]) (.cell (j := 1) (b := b1) (cd := c_api_Prefix) (q := z_api_Prefix) (by kernel_rfl) rfl Ty30 (At.whole _) (.tmp (by kernel_rfl) (.tmp (by kernel_rfl) .nil))) rfl)
  ·exact SJ.skip <| SJ.sr 3 <| OJ.go 3 [(9, .int .i64 (IntKind.wrap .i64 (s2 + 1))), (51, .int .i64 (IntKind.wrap .i64 (s2 + 1))), (50, .int .i64 s2)] <| OJ.nil <| SJ.seq <| SJ.block (id := 2) <| SJ.loop (fun s_ : Int => [(0, .string a0), (2, .pointer (some (pt b1 0))), (5, .int .i64 s2), (6, .pointer (some (pt b8 0))), (9, .int .i64 s_)]) (fun s_ : Int => [(b8, c_api_IP.enc r7.1), (b1, c_api_Prefix.enc z_api_Prefix)]) [0, 2, 5, 6, 9] rfl (fun _ _ => rfl) (fun s_ => weirref4_ParsePrefix.L1_ok a0 b1 s2 r7 b8 s_)
noncomputable def weirref4_ParsePrefix.F2 (a0 : ByteArray) (b1 : Nat) : (LS Int (api_Prefix × Int × Int)) → Reach := loopF [.inLoop (c1 (c1 (c1 (c2 (c2 (c2 weirref4_ParsePrefix.B)))))), .inBlock 0, .code (c2 (c2 (c2 (c2 weirref4_ParsePrefix.B))))] (fun s_ : Int => [(0, .string a0), (2, .pointer (some (pt b1 0))), (5, .int .i64 s_)]) (fun s_ : Int => [(b1, c_api_Prefix.enc z_api_Prefix)]) weirref4_ParsePrefix.F0
noncomputable def weirref4_ParsePrefix.L2 (a0 : ByteArray) (s2 : Int) : M (LS Int (api_Prefix × Int × Int)) :=
 (if s2 < (a0.size : Int) then
   chk ((0 : Int) ≤ s2 ∧ s2 < (a0.size : Int)) >>= fun _ =>
   pure ((sb a0 s2) != 47)
  else
   pure false) >>= fun y34 =>
 if y34 = true then
  pure (LS.next (IntKind.wrap .i64 (s2 + 1)))
 else
  (weirref4_ParsePrefix.K2 a0 s2) >>= fun b => pure (LS.done b)
theorem weirref4_ParsePrefix.L2_ok (a0 : ByteArray) (b1 : Nat) (s2 : Int) :
  SJ weirref4_ParsePrefix.cx [.code (c1 (c1 (c1 (c2 (c2 (c2 weirref4_ParsePrefix.B)))))), .inLoop (c1 (c1 (c1 (c2 (c2 (c2 weirref4_ParsePrefix.B)))))), .inBlock 0, .code (c2 (c2 (c2 (c2 weirref4_ParsePrefix.B))))] [(0, .string a0), (2, .pointer (some (pt b1 0))), (5, .int .i64 s2)] [(b1, c_api_Prefix.enc z_api_Prefix)] (weirref4_ParsePrefix.L2 a0 s2) (weirref4_ParsePrefix.F2 a0 b1) := by
 unfold weirref4_ParsePrefix.L2
 refine SJ.seq <| SJ.sr 10 <| OJ.go 5 [(22, .bool (decide (s2 < (a0.size : Int)))), (21, .bool (decide (s2 < (a0.size : Int)))), (20, .int .i64 (a0.size : Int)), (19, .string a0), (18, .int .i64 s2)] <| OJ.join (b := decide (s2 < (a0.size : Int))) [5, 6, 7, 8, 9] [] [0, 2, 5, 27] (fun y34 => [(0, .string a0), (2, .pointer (some (pt b1 0))), (5, .int .i64 s2), (27, .bool y34)]) [] [] (t := 22) decide_eq_true_iff (fun hp_ => ?_) (fun hp_ => ?_) (fun _ _ _ _ _ _ h_ => h_) (fun y34 => ?_)
 ·refine OJ.go 2 [(24, .int .i64 s2), (23, .string a0)] <| OJ.idxT (d := 25) (T := 9) (y := .tmp 23) (j := .tmp 24) (k := .i64) (fun hb32 hb33 => ?_)
  exact OJ.go 2 [(27, .bool ((sb a0 s2) != 47)), (26, .bool ((sb a0 s2) != 47))] <| OJ.x0
 ·exact OJ.go 5 [(27, .bool false), (26, undef), (25, undef), (24, undef), (23, undef)] <| OJ.x0
 ·refine OJ.nil <| SJ.cond (t := (.tmp 27)) (b := y34) Iff.rfl (fun hc35 => ?_) (fun hc35 => ?_)
  ·exact SJ.skip <| SJ.block (id := 1) <| SJ.rg 3 <| OJ.go 3 [(5, .int .i64 (IntKind.wrap .i64 (s2 + 1))), (29, .int .i64 (IntKind.wrap .i64 (s2 + 1))), (28, .int .i64 s2)] <| OJ.nil <| SJ.inBlock <| SJ.at_ [0, 2, 5] rfl
  ·refine SJ.exit (id := 0) (by rfl) <| SJ.less [0, 2, 5] (m' := [(0, .string a0), (2, .pointer (some (pt b1 0))), (5, .int .i64 s2)]) ?_
   refine SJ.done ?_
   exact weirref4_ParsePrefix.K2_ok a0 b1 s2
noncomputable def weirref4_ParsePrefix (a0 : ByteArray) : M (api_Prefix × Int × Int) :=
 slot 30 >>= fun b1 =>
 if (a0.size : Int) > 49 then
  pure (z_api_Prefix, 2, 49)
 else
  loopM (fun s_ : Int => weirref4_ParsePrefix.L2 a0 s_) 0
theorem weirref4_ParsePrefix_ok (a0 : ByteArray) : Ref Tryd.prog 69 [.string a0] (weirref4_ParsePrefix a0) weirref4_ParsePrefix.out := by
 refine Ref.of (cd := weirref4_ParsePrefix.B) Tryd.func69 ?_
 show SJ weirref4_ParsePrefix.cx [.code weirref4_ParsePrefix.B] [(0, .string a0)] [] (weirref4_ParsePrefix a0) weirref4_ParsePrefix.F0
 unfold weirref4_ParsePrefix
 refine SJ.sr 3 <| OJ.slotOf (d := 2) (op := (.alloc 30)) (cd := c_api_Prefix) (u := z_api_Prefix) (owed := []) (alloc_run Ty30) (fun b1 => ?_)
 refine OW.nil <| OJ.go 2 [(4, .int .i64 0), (3, .int .i64 0)] <| OJ.nil <| SJ.seq <| SJ.sr 3 <| OJ.go 3 [(16, .bool (decide ((a0.size : Int) > 49))), (15, .int .i64 (a0.size : Int)), (14, .string a0)] <| OJ.nil <| SJ.cond (t := (.tmp 16)) (b := decide ((a0.size : Int) > 49)) decide_eq_true_iff (fun hc36 => ?_) (fun hc36 => ?_)
 ·refine SJ.sr 4 <| OJ.build (d := 17) (T := 30) (parts := []) (ps := []) (cd := c_api_Prefix) (z0 := z_api_Prefix) z_api_Prefix Ty30 rfl Filled.nil ?_
  refine OJ.kst (y := .tmp 2) (z := .tmp 17) (cd := c_api_Prefix) (u := z_api_Prefix) (j := 0) (b := b1) (o := 0) (c_api_Prefix.enc z_api_Prefix) (owed := []) Ty30 rfl (Upd.whole ((Cod.len _ _).trans (Cod.len _ _).symm)) rfl ?_
  exact OW.nil <| OJ.go 2 [(4, .int .i64 49), (3, .int .i64 2)] <| OJ.nil <| SJ.ret rfl (Res.run (ys := [c_api_Prefix.val z_api_Prefix, .int .i64 2, .int .i64 49]) (.cell (j := 0) (b := b1) (cd := c_api_Prefix) (q := z_api_Prefix) (by kernel_rfl) rfl Ty30 (At.whole _) (.tmp (by kernel_rfl) (.tmp (by kernel_rfl) .nil))) rfl)
 ·exact SJ.skip <| SJ.sr 1 <| OJ.go 1 [(5, .int .i64 0)] <| OJ.nil <| SJ.seq <| SJ.block (id := 0) <| SJ.loop (fun s_ : Int => [(0, .string a0), (2, .pointer (some (pt b1 0))), (5, .int .i64 s_)]) (fun s_ : Int => [(b1, c_api_Prefix.enc z_api_Prefix)]) [0, 2, 5] rfl (fun _ _ => rfl) (fun s_ => weirref4_ParsePrefix.L2_ok a0 b1 s_)

/-! ### weir/weirref4.Contains: function 38 -/
noncomputable def weirref4_Contains.B : Code := (Tryd.f38.body).getD .skip
noncomputable def weirref4_Contains.cx : Fx := ⟨Tryd.prog, 38, Tryd.f38, none⟩
noncomputable def weirref4_Contains.out (r_ : Bool) : Value := .bool r_
noncomputable def weirref4_Contains.F0 (r_ : Bool) : Reach := .ret (weirref4_Contains.out r_)
noncomputable def weirref4_Contains.F1 (a0 : api_Prefix) (a1 : api_IP) (b1 : Nat) (b2 : Nat) : (LS Int Bool) → Reach := loopF [.inLoop (c1 (c1 (c2 (c1 (c2 (c2 (c2 (c2 weirref4_Contains.B)))))))), .inBlock 0, .code (c2 (c2 (c2 (c2 (c2 weirref4_Contains.B)))))] (fun s_ : Int => [(2, .pointer (some (pt b1 0))), (3, .pointer (some (pt b2 0))), (7, .int .i64 s_)]) (fun s_ : Int => [(b2, c_api_IP.enc a1), (b1, c_api_Prefix.enc a0)]) weirref4_Contains.F0
noncomputable def weirref4_Contains.L1 (a0 : api_Prefix) (a1 : api_IP) (s7 : Int) : M (LS Int Bool) :=
 if s7 < a0.Len then
  draw >>= fun _ =>
  weirref4_bit a0.IP s7 >>= fun r12 =>
  weirref4_bit a1 s7 >>= fun r13 =>
  if r12 ≠ r13 then
   pure (LS.done false)
  else
   pure (LS.next (IntKind.wrap .i64 (s7 + 1)))
 else
  pure (LS.done true)
theorem weirref4_Contains.L1_ok (a0 : api_Prefix) (a1 : api_IP) (b1 : Nat) (b2 : Nat) (s7 : Int) :
  SJ weirref4_Contains.cx [.code (c1 (c1 (c2 (c1 (c2 (c2 (c2 (c2 weirref4_Contains.B)))))))), .inLoop (c1 (c1 (c2 (c1 (c2 (c2 (c2 (c2 weirref4_Contains.B)))))))), .inBlock 0, .code (c2 (c2 (c2 (c2 (c2 weirref4_Contains.B)))))] [(2, .pointer (some (pt b1 0))), (3, .pointer (some (pt b2 0))), (7, .int .i64 s7)] [(b2, c_api_IP.enc a1), (b1, c_api_Prefix.enc a0)] (weirref4_Contains.L1 a0 a1 s7) (weirref4_Contains.F1 a0 a1 b1 b2) := by
 unfold weirref4_Contains.L1
 refine SJ.seq <| SJ.sr 4 <| OJ.go 2 [(27, .pointer (some (pt b1 17))), (26, .int .i64 s7)] <| OJ.kld (d := 28) (y := .tmp 27) (cd := (cI .i64)) (j := 1) (b := b1) (o := 17) a0.Len (pend2 := []) Ty3 rfl (At_api_Prefix_Len a0) rfl ?_
 refine OJ.go 1 [(29, .bool (decide (s7 < a0.Len)))] <| OJ.nil <| SJ.cond (t := (.tmp 29)) (b := decide (s7 < a0.Len)) decide_eq_true_iff (fun hc15 => ?_) (fun hc15 => ?_)
 ·refine SJ.skip <| SJ.seq <| SJ.block (id := 1) <| SJ.seq <| SJ.draw (id := 8) (kd := [0, 1, 0, 2, 1, 0, 2, 0]) (bef := [0, 1, 0, 7, 0, 0, 63, 127]) (ord := [0, 1, 2, 4, 3, 5, 6, 7]) mixed ?_
  refine OJ.go 1 [(32, .pointer (some (pt b1 0)))] <| OJ.kld (d := 33) (y := .tmp 32) (cd := c_api_IP) (j := 1) (b := b1) (o := 0) a0.IP (pend2 := [⟨1, 28, (pt b1 0), c_api_IP.val a0.IP⟩]) Ty28 rfl (At_api_Prefix_IP a0) rfl ?_
  refine OJ.go 1 [(34, .int .i64 s7)] <| OJ.kld (d := 36) (y := .tmp 3) (cd := c_api_IP) (j := 0) (b := b2) (o := 0) a1 (pend2 := [⟨4, 28, (pt b2 0), c_api_IP.val a1⟩, ⟨1, 28, (pt b1 0), c_api_IP.val a0.IP⟩]) Ty28 rfl (At.whole _) rfl ?_
  refine OJ.call (d := 35) (g := 54) (ats := #[28, 3]) (args := [.tmp 33, .tmp 34]) (owed := [⟨4, 28, (pt b2 0), c_api_IP.val a1⟩]) F54 (weirref4_bit_ok a0.IP s7) (fun r12 => ?_)
  refine OW.known (j := 0) (q := a1) Ty28 rfl (At.whole _) ?_
  refine OW.nil <| OJ.go 1 [(37, .int .i64 s7)] <| OJ.call (d := 38) (g := 54) (ats := #[28, 3]) (args := [.tmp 36, .tmp 37]) (owed := []) F54 (weirref4_bit_ok a1 s7) (fun r13 => ?_)
  refine OW.nil <| OJ.go 1 [(39, .bool (r12 != r13))] <| OJ.nil <| SJ.cond (t := (.tmp 39)) (b := (r12 != r13)) bne_iff_ne (fun hc14 => ?_) (fun hc14 => ?_)
  ·exact SJ.sr 1 <| OJ.go 1 [(4, .bool false)] <| OJ.nil <| SJ.r1 (.bool false) rfl rfl
  ·exact SJ.skip <| SJ.inBlock <| SJ.rg 3 <| OJ.go 3 [(7, .int .i64 (IntKind.wrap .i64 (s7 + 1))), (31, .int .i64 (IntKind.wrap .i64 (s7 + 1))), (30, .int .i64 s7)] <| OJ.nil <| SJ.at_ [2, 3, 7] rfl
 ·exact SJ.exit (id := 0) (by rfl) <| SJ.sr 1 <| OJ.go 1 [(4, .bool true)] <| OJ.nil <| SJ.r1 (.bool true) rfl rfl
noncomputable def weirref4_Contains (a0 : api_Prefix) (a1 : api_IP) : M Bool :=
 slot 30 >>= fun b1 =>
 slot 28 >>= fun b2 =>
 weirref4_ValidPrefix a0 >>= fun r3 =>
 weirref4_Valid a1 >>= fun r4 =>
 (if r3 ≠ 0 then
   pure true
  else
   pure (!r4)) >>= fun y5 =>
 (if y5 = true then
   pure true
  else
   pure (a0.IP.V != a1.V)) >>= fun y6 =>
 if y6 = true then
  pure false
 else
  loopM (fun s_ : Int => weirref4_Contains.L1 a0 a1 s_) 0
theorem weirref4_Contains_ok (a0 : api_Prefix) (a1 : api_IP) : Ref Tryd.prog 38 [c_api_Prefix.val a0, c_api_IP.val a1] (weirref4_Contains a0 a1) weirref4_Contains.out := by
 refine Ref.of (cd := weirref4_Contains.B) Tryd.func38 ?_
 show SJ weirref4_Contains.cx [.code weirref4_Contains.B] [(0, c_api_Prefix.val a0), (1, c_api_IP.val a1)] [] (weirref4_Contains a0 a1) weirref4_Contains.F0
 unfold weirref4_Contains
 refine SJ.sr 3 <| OJ.slotOf (d := 2) (op := (.box 30 (.tmp 0))) (cd := c_api_Prefix) (u := a0) (owed := []) (box_run (by kernel_rfl)) (fun b1 => ?_)
 refine OW.nil <| OJ.slotOf (d := 3) (op := (.box 28 (.tmp 1))) (cd := c_api_IP) (u := a1) (owed := []) (box_run (by kernel_rfl)) (fun b2 => ?_)
 refine OW.nil <| OJ.go 1 [(4, .bool false)] <| OJ.nil <| SJ.sr 3 <| OJ.kld (d := 8) (y := .tmp 2) (cd := c_api_Prefix) (j := 1) (b := b1) (o := 0) a0 (pend2 := []) Ty30 rfl (At.whole _) rfl ?_
 refine OJ.call (d := 9) (g := 34) (ats := #[30]) (args := [.tmp 8]) (owed := []) F34 (weirref4_ValidPrefix_ok a0) (fun r3 => ?_)
 refine OW.nil <| OJ.go 1 [(5, .int .i64 r3)] <| OJ.nil <| SJ.sr 3 <| OJ.kld (d := 10) (y := .tmp 3) (cd := c_api_IP) (j := 0) (b := b2) (o := 0) a1 (pend2 := []) Ty28 rfl (At.whole _) rfl ?_
 refine OJ.call (d := 11) (g := 52) (ats := #[28]) (args := [.tmp 10]) (owed := []) F52 (weirref4_Valid_ok a1) (fun r4 => ?_)
 refine OW.nil <| OJ.go 1 [(6, .bool r4)] <| OJ.nil <| SJ.seq <| SJ.sr 14 <| OJ.go 3 [(14, .bool (r3 != 0)), (13, .bool (r3 != 0)), (12, .int .i64 r3)] <| OJ.join (b := (r3 != 0)) [3, 4, 5] [6, 7, 8, 9, 10, 11, 12, 13] [2, 3, 17] (fun y5 => [(2, .pointer (some (pt b1 0))), (3, .pointer (some (pt b2 0))), (17, .bool y5)]) [] [] (t := 14) bne_iff_ne (fun hp_ => ?_) (fun hp_ => ?_) (fun _ _ _ _ _ _ h_ => h_) (fun y5 => ?_)
 ·exact OJ.go 3 [(17, .bool true), (16, undef), (15, undef)] <| OJ.x0
 ·exact OJ.go 3 [(17, .bool (!r4)), (16, .bool (!r4)), (15, .bool r4)] <| OJ.x0
 ·refine OJ.go 1 [(18, .bool y5)] <| OJ.join (b := y5) [7, 8, 9, 10, 11, 12, 13] [] [2, 3, 25] (fun y6 => [(2, .pointer (some (pt b1 0))), (3, .pointer (some (pt b2 0))), (25, .bool y6)]) [] [] (t := 18) Iff.rfl (fun hp_ => ?_) (fun hp_ => ?_) (fun _ _ _ _ _ _ h_ => h_) (fun y6 => ?_)
  ·exact OJ.go 7 [(25, .bool true), (24, undef), (23, undef), (22, undef), (21, undef), (20, undef), (19, undef)] <| OJ.x0
  ·refine OJ.go 2 [(20, .pointer (some (pt b1 0))), (19, .pointer (some (pt b1 0)))] <| OJ.kld (d := 21) (y := .tmp 20) (cd := (cI .i64)) (j := 1) (b := b1) (o := 0) a0.IP.V (pend2 := []) Ty3 rfl (At.trans (At_api_Prefix_IP a0) (At_api_IP_V a0.IP)) rfl ?_
   refine OJ.go 1 [(22, .pointer (some (pt b2 0)))] <| OJ.kld (d := 23) (y := .tmp 22) (cd := (cI .i64)) (j := 0) (b := b2) (o := 0) a1.V (pend2 := []) Ty3 rfl (At_api_IP_V a1) rfl ?_
   exact OJ.go 2 [(25, .bool (a0.IP.V != a1.V)), (24, .bool (a0.IP.V != a1.V))] <| OJ.x0
  ·refine OJ.nil <| SJ.cond (t := (.tmp 25)) (b := y6) Iff.rfl (fun hc16 => ?_) (fun hc16 => ?_)
   ·exact SJ.sr 1 <| OJ.go 1 [(4, .bool false)] <| OJ.nil <| SJ.r1 (.bool false) rfl rfl
   ·exact SJ.skip <| SJ.seq <| SJ.sr 1 <| OJ.go 1 [(7, .int .i64 0)] <| OJ.nil <| SJ.block (id := 0) <| SJ.loop (fun s_ : Int => [(2, .pointer (some (pt b1 0))), (3, .pointer (some (pt b2 0))), (7, .int .i64 s_)]) (fun s_ : Int => [(b2, c_api_IP.enc a1), (b1, c_api_Prefix.enc a0)]) [2, 3, 7] rfl (fun _ _ => rfl) (fun s_ => weirref4_Contains.L1_ok a0 a1 b1 b2 s_)

/-! ### weir/weirref4.of: function 63 -/
noncomputable def weirref4_of.B : Code := (Tryd.f63.body).getD .skip
noncomputable def weirref4_of.cx : Fx := ⟨Tryd.prog, 63, Tryd.f63, none⟩
noncomputable def weirref4_of.out (r_ : Bool) : Value := .bool r_
noncomputable def weirref4_of.F0 (r_ : Bool) : Reach := .ret (weirref4_of.out r_)
noncomputable def weirref4_of (a0 : ByteArray) (a1 : api_IP) : M Bool :=
 slot 28 >>= fun b1 =>
 weirref4_ParsePrefix a0 >>= fun r2 =>
 slot 30 >>= fun b3 =>
 weirref4_Contains r2.1 a1 >>= fun r4 =>
 pure r4
theorem weirref4_of_ok (a0 : ByteArray) (a1 : api_IP) : Ref Tryd.prog 63 [.string a0, c_api_IP.val a1] (weirref4_of a0 a1) weirref4_of.out := by
 refine Ref.of (cd := weirref4_of.B) Tryd.func63 ?_
 show SJ weirref4_of.cx [.code weirref4_of.B] [(0, .string a0), (1, c_api_IP.val a1)] [] (weirref4_of a0 a1) weirref4_of.F0
 unfold weirref4_of
 refine SJ.sr 2 <| OJ.slotOf (d := 3) (op := (.box 28 (.tmp 1))) (cd := c_api_IP) (u := a1) (owed := []) (box_run (by kernel_rfl)) (fun b1 => ?_)
 refine OW.nil <| OJ.go 1 [(4, .bool false)] <| OJ.nil <| SJ.sr 10 <| OJ.go 1 [(9, .string a0)] <| OJ.call (d := 10) (g := 69) (ats := #[9]) (args := [.tmp 9]) (owed := []) F69 (weirref4_ParsePrefix_ok a0) (fun r2 => ?_)
 refine OW.nil <| OJ.go 4 [(13, .int .i64 r2.2.2), (12, .int .i64 r2.2.1), (11, c_api_Prefix.val r2.1), (8, .tuple #[c_api_Prefix.val r2.1, .int .i64 r2.2.1, .int .i64 r2.2.2])] <| OJ.slotOf (d := 5) (op := (.alloc 30)) (cd := c_api_Prefix) (u := z_api_Prefix) (owed := []) (alloc_run Ty30) (fun b3 => ?_)
 refine OW.nil <| OJ.kst (y := .tmp 5) (z := .tmp 11) (cd := c_api_Prefix) (u := r2.1) (j := 0) (b := b3) (o := 0) (c_api_Prefix.enc r2.1) (owed := []) Ty30 rfl (Upd.whole ((Cod.len _ _).trans (Cod.len _ _).symm)) rfl ?_
 refine OW.nil <| OJ.go 2 [(7, .int .i64 r2.2.2), (6, .int .i64 r2.2.1)] <| OJ.nil <| SJ.sr 4 <| OJ.kld (d := 14) (y := .tmp 5) (cd := c_api_Prefix) (j := 0) (b := b3) (o := 0) r2.1 (pend2 := []) Ty30 rfl (At.whole _) rfl ?_
 refine OJ.kld (d := 15) (y := .tmp 3) (cd := c_api_IP) (j := 1) (b := b1) (o := 0) a1 (pend2 := []) Ty28 rfl (At.whole _) rfl ?_
 refine OJ.call (d := 16) (g := 38) (ats := #[30, 28]) (args := [.tmp 14, .tmp 15]) (owed := []) F38 (weirref4_Contains_ok r2.1 a1) (fun r4 => ?_)
 exact OW.nil <| OJ.go 1 [(4, .bool r4)] <| OJ.nil <| SJ.r1 (.bool r4) rfl rfl

/-! ### weir/weirref4.Class: function 55 -/
noncomputable def weirref4_Class.B : Code := (Tryd.f55.body).getD .skip
noncomputable def weirref4_Class.cx : Fx := ⟨Tryd.prog, 55, Tryd.f55, none⟩
noncomputable def weirref4_Class.out (r_ : Int) : Value := .int .i64 r_
noncomputable def weirref4_Class.F0 (r_ : Int) : Reach := .ret (weirref4_Class.out r_)
noncomputable def weirref4_Class (a0 : api_IP) : M Int :=
 slot 28 >>= fun b1 =>
 weirref4_Valid a0 >>= fun r2 =>
 if ¬ (r2 = true) then
  pure 0
 else
  weirref4_of str0 a0 >>= fun r287 =>
  (if r287 = true then
    pure true
   else
    weirref4_of str1 a0 >>= fun r288 =>
    pure r288) >>= fun y289 =>
  if y289 = true then
   pure 1
  else
   weirref4_of str2 a0 >>= fun r430 =>
   (if r430 = true then
     pure true
    else
     weirref4_of str3 a0 >>= fun r431 =>
     pure r431) >>= fun y432 =>
   if y432 = true then
    pure 2
   else
    weirref4_of str4 a0 >>= fun r501 =>
    (if r501 = true then
      pure true
     else
      weirref4_of str5 a0 >>= fun r502 =>
      pure r502) >>= fun y503 =>
    if y503 = true then
     pure 3
    else
     weirref4_of str6 a0 >>= fun r536 =>
     (if r536 = true then
       pure true
      else
       weirref4_of str7 a0 >>= fun r537 =>
       pure r537) >>= fun y538 =>
     if y538 = true then
      pure 4
     else
      weirref4_of str8 a0 >>= fun r553 =>
      if r553 = true then
       pure 5
      else
       weirref4_of str9 a0 >>= fun r560 =>
       (if r560 = true then
         pure true
        else
         weirref4_of str10 a0 >>= fun r561 =>
         pure r561) >>= fun y562 =>
       (if y562 = true then
         pure true
        else
         weirref4_of str11 a0 >>= fun r563 =>
         pure r563) >>= fun y564 =>
       if y564 = true then
        pure 6
       else
        pure 7
theorem weirref4_Class_ok (a0 : api_IP) : Ref Tryd.prog 55 [c_api_IP.val a0] (weirref4_Class a0) weirref4_Class.out := by
 refine Ref.of (cd := weirref4_Class.B) Tryd.func55 ?_
 show SJ weirref4_Class.cx [.code weirref4_Class.B] [(0, c_api_IP.val a0)] [] (weirref4_Class a0) weirref4_Class.F0
 unfold weirref4_Class
 refine SJ.sr 2 <| OJ.slotOf (d := 1) (op := (.box 28 (.tmp 0))) (cd := c_api_IP) (u := a0) (owed := []) (box_run (by kernel_rfl)) (fun b1 => ?_)
 refine OW.nil <| OJ.go 1 [(2, .int .i64 0)] <| OJ.nil <| SJ.sr 3 <| OJ.kld (d := 4) (y := .tmp 1) (cd := c_api_IP) (j := 0) (b := b1) (o := 0) a0 (pend2 := []) Ty28 rfl (At.whole _) rfl ?_
 refine OJ.call (d := 5) (g := 52) (ats := #[28]) (args := [.tmp 4]) (owed := []) F52 (weirref4_Valid_ok a0) (fun r2 => ?_)
 refine OW.nil <| OJ.go 1 [(3, .bool r2)] <| OJ.nil <| SJ.seq <| SJ.block (id := 0) <| SJ.sr 3 <| OJ.go 3 [(6, .bool (!r2)), (8, .bool (!r2)), (7, .bool r2)] <| OJ.nil <| SJ.cond (t := (.tmp 6)) (b := (!r2)) (bnot_iff Iff.rfl) (fun hc571 => ?_) (fun hc571 => ?_)
 ·exact SJ.sr 1 <| OJ.go 1 [(2, .int .i64 0)] <| OJ.nil <| SJ.r1 (.int .i64 0) rfl rfl
 ·refine SJ.sr 7 <| OJ.kld (d := 10) (y := .tmp 1) (cd := c_api_IP) (j := 0) (b := b1) (o := 0) a0 (pend2 := []) Ty28 rfl (At.whole _) rfl ?_
  refine OJ.call (d := 11) (g := 63) (ats := #[9, 28]) (args := [.const (.string str0), .tmp 10]) (owed := []) F63 (weirref4_of_ok str0 a0) (fun r287 => ?_)
  refine OW.nil <| OJ.go 1 [(12, .bool r287)] <| OJ.join (b := r287) [3, 4, 5] [6] [1, 15] (fun y289 => [(1, .pointer (some (pt b1 0))), (15, .bool y289)]) [] [] (t := 12) Iff.rfl (fun hp_ => ?_) (fun hp_ => ?_) (fun _ _ _ _ _ _ h_ => h_) (fun y289 => ?_)
  ·exact OJ.go 3 [(15, .bool true), (14, undef), (13, undef)] <| OJ.x0
  ·refine OJ.kld (d := 13) (y := .tmp 1) (cd := c_api_IP) (j := 0) (b := b1) (o := 0) a0 (pend2 := []) Ty28 rfl (At.whole _) rfl ?_
   refine OJ.call (d := 14) (g := 63) (ats := #[9, 28]) (args := [.const (.string str1), .tmp 13]) (owed := []) F63 (weirref4_of_ok str1 a0) (fun r288 => ?_)
   exact OW.nil <| OJ.go 1 [(15, .bool r288)] <| OJ.x0
  ·refine OJ.go 1 [(9, .bool y289)] <| OJ.nil <| SJ.cond (t := (.tmp 9)) (b := y289) Iff.rfl (fun hc570 => ?_) (fun hc570 => ?_)
   ·exact SJ.sr 1 <| OJ.go 1 [(2, .int .i64 1)] <| OJ.nil <| SJ.r1 (.int .i64 1) rfl rfl
   ·refine SJ.sr 7 <| OJ.kld (d := 17) (y := .tmp 1) (cd := c_api_IP) (j := 0) (b := b1) (o := 0) a0 (pend2 := []) Ty28 rfl (At.whole _) rfl ?_
    refine OJ.call (d := 18) (g := 63) (ats := #[9, 28]) (args := [.const (.string str2), .tmp 17]) (owed := []) F63 (weirref4_of_ok str2 a0) (fun r430 => ?_)
    refine OW.nil <| OJ.go 1 [(19, .bool r430)] <| OJ.join (b := r430) [3, 4, 5] [6] [1, 22] (fun y432 => [(1, .pointer (some (pt b1 0))), (22, .bool y432)]) [] [] (t := 19) Iff.rfl (fun hp_ => ?_) (fun hp_ => ?_) (fun _ _ _ _ _ _ h_ => h_) (fun y432 => ?_)
    ·exact OJ.go 3 [(22, .bool true), (21, undef), (20, undef)] <| OJ.x0
    ·refine OJ.kld (d := 20) (y := .tmp 1) (cd := c_api_IP) (j := 0) (b := b1) (o := 0) a0 (pend2 := []) Ty28 rfl (At.whole _) rfl ?_
     refine OJ.call (d := 21) (g := 63) (ats := #[9, 28]) (args := [.const (.string str3), .tmp 20]) (owed := []) F63 (weirref4_of_ok str3 a0) (fun r431 => ?_)
     exact OW.nil <| OJ.go 1 [(22, .bool r431)] <| OJ.x0
    ·refine OJ.go 1 [(16, .bool y432)] <| OJ.nil <| SJ.cond (t := (.tmp 16)) (b := y432) Iff.rfl (fun hc569 => ?_) (fun hc569 => ?_)
     ·exact SJ.sr 1 <| OJ.go 1 [(2, .int .i64 2)] <| OJ.nil <| SJ.r1 (.int .i64 2) rfl rfl
     ·refine SJ.sr 7 <| OJ.kld (d := 24) (y := .tmp 1) (cd := c_api_IP) (j := 0) (b := b1) (o := 0) a0 (pend2 := []) Ty28 rfl (At.whole _) rfl ?_
      refine OJ.call (d := 25) (g := 63) (ats := #[9, 28]) (args := [.const (.string str4), .tmp 24]) (owed := []) F63 (weirref4_of_ok str4 a0) (fun r501 => ?_)
      refine OW.nil <| OJ.go 1 [(26, .bool r501)] <| OJ.join (b := r501) [3, 4, 5] [6] [1, 29] (fun y503 => [(1, .pointer (some (pt b1 0))), (29, .bool y503)]) [] [] (t := 26) Iff.rfl (fun hp_ => ?_) (fun hp_ => ?_) (fun _ _ _ _ _ _ h_ => h_) (fun y503 => ?_)
      ·exact OJ.go 3 [(29, .bool true), (28, undef), (27, undef)] <| OJ.x0
      ·refine OJ.kld (d := 27) (y := .tmp 1) (cd := c_api_IP) (j := 0) (b := b1) (o := 0) a0 (pend2 := []) Ty28 rfl (At.whole _) rfl ?_
       refine OJ.call (d := 28) (g := 63) (ats := #[9, 28]) (args := [.const (.string str5), .tmp 27]) (owed := []) F63 (weirref4_of_ok str5 a0) (fun r502 => ?_)
       exact OW.nil <| OJ.go 1 [(29, .bool r502)] <| OJ.x0
      ·refine OJ.go 1 [(23, .bool y503)] <| OJ.nil <| SJ.cond (t := (.tmp 23)) (b := y503) Iff.rfl (fun hc568 => ?_) (fun hc568 => ?_)
       ·exact SJ.sr 1 <| OJ.go 1 [(2, .int .i64 3)] <| OJ.nil <| SJ.r1 (.int .i64 3) rfl rfl
       ·refine SJ.sr 7 <| OJ.kld (d := 31) (y := .tmp 1) (cd := c_api_IP) (j := 0) (b := b1) (o := 0) a0 (pend2 := []) Ty28 rfl (At.whole _) rfl ?_
        refine OJ.call (d := 32) (g := 63) (ats := #[9, 28]) (args := [.const (.string str6), .tmp 31]) (owed := []) F63 (weirref4_of_ok str6 a0) (fun r536 => ?_)
        refine OW.nil <| OJ.go 1 [(33, .bool r536)] <| OJ.join (b := r536) [3, 4, 5] [6] [1, 36] (fun y538 => [(1, .pointer (some (pt b1 0))), (36, .bool y538)]) [] [] (t := 33) Iff.rfl (fun hp_ => ?_) (fun hp_ => ?_) (fun _ _ _ _ _ _ h_ => h_) (fun y538 => ?_)
        ·exact OJ.go 3 [(36, .bool true), (35, undef), (34, undef)] <| OJ.x0
        ·refine OJ.kld (d := 34) (y := .tmp 1) (cd := c_api_IP) (j := 0) (b := b1) (o := 0) a0 (pend2 := []) Ty28 rfl (At.whole _) rfl ?_
         refine OJ.call (d := 35) (g := 63) (ats := #[9, 28]) (args := [.const (.string str7), .tmp 34]) (owed := []) F63 (weirref4_of_ok str7 a0) (fun r537 => ?_)
         exact OW.nil <| OJ.go 1 [(36, .bool r537)] <| OJ.x0
        ·refine OJ.go 1 [(30, .bool y538)] <| OJ.nil <| SJ.cond (t := (.tmp 30)) (b := y538) Iff.rfl (fun hc567 => ?_) (fun hc567 => ?_)
         ·exact SJ.sr 1 <| OJ.go 1 [(2, .int .i64 4)] <| OJ.nil <| SJ.r1 (.int .i64 4) rfl rfl
         ·refine SJ.sr 3 <| OJ.kld (d := 38) (y := .tmp 1) (cd := c_api_IP) (j := 0) (b := b1) (o := 0) a0 (pend2 := []) Ty28 rfl (At.whole _) rfl ?_
          refine OJ.call (d := 39) (g := 63) (ats := #[9, 28]) (args := [.const (.string str8), .tmp 38]) (owed := []) F63 (weirref4_of_ok str8 a0) (fun r553 => ?_)
          refine OW.nil <| OJ.go 1 [(37, .bool r553)] <| OJ.nil <| SJ.cond (t := (.tmp 37)) (b := r553) Iff.rfl (fun hc566 => ?_) (fun hc566 => ?_)
          ·exact SJ.sr 1 <| OJ.go 1 [(2, .int .i64 5)] <| OJ.nil <| SJ.r1 (.int .i64 5) rfl rfl
          ·refine SJ.sr 11 <| OJ.kld (d := 41) (y := .tmp 1) (cd := c_api_IP) (j := 0) (b := b1) (o := 0) a0 (pend2 := []) Ty28 rfl (At.whole _) rfl ?_
           refine OJ.call (d := 42) (g := 63) (ats := #[9, 28]) (args := [.const (.string str9), .tmp 41]) (owed := []) F63 (weirref4_of_ok str9 a0) (fun r560 => ?_)
           refine OW.nil <| OJ.go 1 [(43, .bool r560)] <| OJ.join (b := r560) [3, 4, 5] [6, 7, 8, 9, 10] [1, 46] (fun y562 => [(1, .pointer (some (pt b1 0))), (46, .bool y562)]) [] [] (t := 43) Iff.rfl (fun hp_ => ?_) (fun hp_ => ?_) (fun _ _ _ _ _ _ h_ => h_) (fun y562 => ?_)
           ·exact OJ.go 3 [(46, .bool true), (45, undef), (44, undef)] <| OJ.x0
           ·refine OJ.kld (d := 44) (y := .tmp 1) (cd := c_api_IP) (j := 0) (b := b1) (o := 0) a0 (pend2 := []) Ty28 rfl (At.whole _) rfl ?_
            refine OJ.call (d := 45) (g := 63) (ats := #[9, 28]) (args := [.const (.string str10), .tmp 44]) (owed := []) F63 (weirref4_of_ok str10 a0) (fun r561 => ?_)
            exact OW.nil <| OJ.go 1 [(46, .bool r561)] <| OJ.x0
           ·refine OJ.go 1 [(47, .bool y562)] <| OJ.join (b := y562) [7, 8, 9] [10] [50] (fun y564 => [(50, .bool y564)]) [] [] (t := 47) Iff.rfl (fun hp_ => ?_) (fun hp_ => ?_) (fun _ _ _ _ _ _ h_ => h_) (fun y564 => ?_)
            ·exact OJ.go 3 [(50, .bool true), (49, undef), (48, undef)] <| OJ.x0
            ·refine OJ.kld (d := 48) (y := .tmp 1) (cd := c_api_IP) (j := 0) (b := b1) (o := 0) a0 (pend2 := []) Ty28 rfl (At.whole _) rfl ?_
             refine OJ.call (d := 49) (g := 63) (ats := #[9, 28]) (args := [.const (.string str11), .tmp 48]) (owed := []) F63 (weirref4_of_ok str11 a0) (fun r563 => ?_)
             exact OW.nil <| OJ.go 1 [(50, .bool r563)] <| OJ.x0
            ·refine OJ.go 1 [(40, .bool y564)] <| OJ.nil <| SJ.cond (t := (.tmp 40)) (b := y564) Iff.rfl (fun hc565 => ?_) (fun hc565 => ?_)
             ·exact SJ.sr 1 <| OJ.go 1 [(2, .int .i64 6)] <| OJ.nil <| SJ.r1 (.int .i64 6) rfl rfl
             ·exact SJ.skip <| SJ.inBlock <| SJ.sr 1 <| OJ.go 1 [(2, .int .i64 7)] <| OJ.nil <| SJ.r1 (.int .i64 7) rfl rfl

/-! ### weir/weirref14.via: function 35 -/
noncomputable def weirref14_via.B : Code := (Tryd.f35.body).getD .skip
noncomputable def weirref14_via.cx : Fx := ⟨Tryd.prog, 35, Tryd.f35, none⟩
noncomputable def weirref14_via.out (r_ : Bool) : Value := .bool r_
noncomputable def weirref14_via.F0 (r_ : Bool) : Reach := .ret (weirref14_via.out r_)
noncomputable def weirref14_via (a0 : api_Route) : M Bool :=
 slot 32 >>= fun b1 =>
 if a0.Via = z_api_IP then
  pure true
 else
  weirref4_Class a0.Via >>= fun r2 =>
  (if a0.Via.V = a0.Prefix.IP.V then
    (if r2 = 7 then
      pure true
     else
      pure (r2 == 4)) >>= fun y3 =>
    pure y3
   else
    pure false) >>= fun y4 =>
  pure y4
theorem weirref14_via_ok (a0 : api_Route) : Ref Tryd.prog 35 [c_api_Route.val a0] (weirref14_via a0) weirref14_via.out := by
 refine Ref.of (cd := weirref14_via.B) Tryd.func35 ?_
 show SJ weirref14_via.cx [.code weirref14_via.B] [(0, c_api_Route.val a0)] [] (weirref14_via a0) weirref14_via.F0
 unfold weirref14_via
 refine SJ.sr 2 <| OJ.slotOf (d := 1) (op := (.box 32 (.tmp 0))) (cd := c_api_Route) (u := a0) (owed := []) (box_run (by kernel_rfl)) (fun b1 => ?_)
 refine OW.nil <| OJ.go 1 [(2, .bool false)] <| OJ.nil <| SJ.seq <| SJ.sr 4 <| OJ.go 1 [(4, .pointer (some (pt b1 19)))] <| OJ.kld (d := 5) (y := .tmp 4) (cd := c_api_IP) (j := 0) (b := b1) (o := 19) a0.Via (pend2 := []) Ty28 rfl (At_api_Route_Via a0) rfl ?_
 refine OJ.build (d := 6) (T := 28) (parts := []) (ps := []) (cd := c_api_IP) (z0 := z_api_IP) z_api_IP Ty28 rfl Filled.nil ?_
 refine OJ.eql (d := 7) (T := 28) (yT := 28) (y := .tmp 5) (z := .tmp 6) (cd := c_api_IP) (p := a0.Via) (q := z_api_IP) rfl Eq28 ?_
 refine OJ.nil <| SJ.cond (t := (.tmp 7)) (b := (eqv a0.Via z_api_IP)) eqv_iff (fun hc5 => ?_) (fun hc5 => ?_)
 ·exact SJ.sr 1 <| OJ.go 1 [(2, .bool true)] <| OJ.nil <| SJ.r1 (.bool true) rfl rfl
 ·refine SJ.skip <| SJ.sr 4 <| OJ.go 1 [(8, .pointer (some (pt b1 19)))] <| OJ.kld (d := 9) (y := .tmp 8) (cd := c_api_IP) (j := 0) (b := b1) (o := 19) a0.Via (pend2 := []) Ty28 rfl (At_api_Route_Via a0) rfl ?_
  refine OJ.call (d := 10) (g := 55) (ats := #[28]) (args := [.tmp 9]) (owed := []) F55 (weirref4_Class_ok a0.Via) (fun r2 => ?_)
  refine OW.nil <| OJ.go 1 [(3, .int .i64 r2)] <| OJ.nil <| SJ.sr 17 <| OJ.go 2 [(12, .pointer (some (pt b1 19))), (11, .pointer (some (pt b1 19)))] <| OJ.kld (d := 13) (y := .tmp 12) (cd := (cI .i64)) (j := 0) (b := b1) (o := 19) a0.Via.V (pend2 := []) Ty3 rfl (At.trans (At_api_Route_Via a0) (At_api_IP_V a0.Via)) rfl ?_
  refine OJ.go 3 [(16, .pointer (some (pt b1 0))), (15, .pointer (some (pt b1 0))), (14, .pointer (some (pt b1 0)))] <| OJ.kld (d := 17) (y := .tmp 16) (cd := (cI .i64)) (j := 0) (b := b1) (o := 0) a0.Prefix.IP.V (pend2 := []) Ty3 rfl (At.trans (At.trans (At_api_Route_Prefix a0) (At_api_Prefix_IP a0.Prefix)) (At_api_IP_V a0.Prefix.IP)) rfl ?_
  refine OJ.go 2 [(19, .bool (a0.Via.V == a0.Prefix.IP.V)), (18, .bool (a0.Via.V == a0.Prefix.IP.V))] <| OJ.join (b := (a0.Via.V == a0.Prefix.IP.V)) [9, 10, 11, 12, 13, 14, 15] [16] [26] (fun y4 => [(26, .bool y4)]) [] [] (t := 19) beq_iff_eq (fun hp_ => ?_) (fun hp_ => ?_) (fun _ _ _ _ _ _ h_ => h_) (fun y4 => ?_)
  ·refine OJ.go 3 [(22, .bool (r2 == 7)), (21, .bool (r2 == 7)), (20, .int .i64 r2)] <| OJ.join (b := (r2 == 7)) [12, 13, 14] [15] [19, 25] (fun y3 => [(19, .bool true), (25, .bool y3)]) [] [] (t := 22) beq_iff_eq (fun hp_ => ?_) (fun hp_ => ?_) (fun _ _ _ _ _ hq_ h_ => ⟨fun e_ he_ => (hq_ e_ he_).elim (fun h => h_.1 e_ h) (fun h => nomatch h), h_.2⟩) (fun y3 => ?_)
   ·exact OJ.go 3 [(25, .bool true), (24, undef), (23, undef)] <| OJ.x0
   ·exact OJ.go 3 [(25, .bool (r2 == 4)), (24, .bool (r2 == 4)), (23, .int .i64 r2)] <| OJ.x0
   ·exact OJ.go 1 [(26, .bool y3)] <| OJ.x0
  ·exact OJ.go 7 [(26, .bool false), (25, undef), (24, undef), (23, undef), (22, undef), (21, undef), (20, undef)] <| OJ.x0
  ·exact OJ.go 1 [(2, .bool y4)] <| OJ.nil <| SJ.r1 (.bool y4) rfl rfl

/-! ### weir/weirref14.at: function 36 -/
noncomputable def weirref14_at.B : Code := (Tryd.f36.body).getD .skip
noncomputable def weirref14_at.cx : Fx := ⟨Tryd.prog, 36, Tryd.f36, none⟩
noncomputable def weirref14_at.out (r_ : Int) : Value := .int .i64 r_
noncomputable def weirref14_at.F0 (r_ : Int) : Reach := .ret (weirref14_at.out r_)
noncomputable def weirref14_at.F1 (a0 : Sl) (a1 : api_Prefix) (b1 : Nat) : (LS Int Int) → Reach := loopF [.inLoop (c1 (c1 (c2 (c1 (c2 weirref14_at.B))))), .inBlock 0, .code (c2 (c2 weirref14_at.B))] (fun s_ : Int => [(0, Sl.v a0), (3, .pointer (some (pt b1 0))), (5, .int .i64 s_)]) (fun s_ : Int => [(b1, c_api_Prefix.enc a1)]) weirref14_at.F0
noncomputable def weirref14_at.L1 (a0 : Sl) (a1 : api_Prefix) (s2 : Int) : M (LS Int Int) :=
 if s2 < (a0.len : Int) then
  draw >>= fun _ =>
  idx a0.a a0.len s2 36 >>= fun p7 =>
  ld c_api_Prefix p7 >>= fun x8 =>
  if x8 = a1 then
   pure (LS.done s2)
  else
   pure (LS.next (IntKind.wrap .i64 (s2 + 1)))
 else
  pure (LS.done (-1))
theorem weirref14_at.L1_ok (a0 : Sl) (a1 : api_Prefix) (b1 : Nat) (s2 : Int) :
  SJ weirref14_at.cx [.code (c1 (c1 (c2 (c1 (c2 weirref14_at.B))))), .inLoop (c1 (c1 (c2 (c1 (c2 weirref14_at.B))))), .inBlock 0, .code (c2 (c2 weirref14_at.B))] [(0, Sl.v a0), (3, .pointer (some (pt b1 0))), (5, .int .i64 s2)] [(b1, c_api_Prefix.enc a1)] (weirref14_at.L1 a0 a1 s2) (weirref14_at.F1 a0 a1 b1) := by
 unfold weirref14_at.L1
 refine SJ.seq <| SJ.sr 4 <| OJ.go 4 [(9, .bool (decide (s2 < (a0.len : Int)))), (8, .int .i64 (a0.len : Int)), (7, Sl.v a0), (6, .int .i64 s2)] <| OJ.nil <| SJ.cond (t := (.tmp 9)) (b := decide (s2 < (a0.len : Int))) decide_eq_true_iff (fun hc10 => ?_) (fun hc10 => ?_)
 ·refine SJ.skip <| SJ.seq <| SJ.block (id := 1) <| SJ.seq <| SJ.draw (id := 4) (kd := [0, 0, 0, 0, 1, 1, 0]) (bef := [0, 0, 3, 7, 15, 0, 63]) (ord := [0, 1, 2, 3, 4, 5, 6]) mixed ?_
  refine OJ.go 2 [(13, .int .i64 s2), (12, Sl.v a0)] <| OJ.idxS (d := 14) (T := 39) (y := .tmp 12) (j := .tmp 13) (E := 32) (cap := a0.cap) (k := .i64) (fun p7 => ?_)
  refine OJ.go 1 [(15, .pointer (some p7))] <| OJ.ld (d := 16) (y := .tmp 15) (pend2 := fun x8 => [⟨4, 30, p7, c_api_Prefix.val x8⟩]) Ty30 (fun _ => rfl) (fun x8 => ?_)
  refine OJ.kld (d := 17) (y := .tmp 3) (cd := c_api_Prefix) (j := 0) (b := b1) (o := 0) a1 (pend2 := [⟨5, 30, (pt b1 0), c_api_Prefix.val a1⟩, ⟨4, 30, p7, c_api_Prefix.val x8⟩]) Ty30 rfl (At.whole _) rfl ?_
  refine OJ.eql (d := 18) (T := 30) (yT := 30) (y := .tmp 16) (z := .tmp 17) (cd := c_api_Prefix) (p := x8) (q := a1) rfl Eq30 ?_
  refine OJ.nil <| SJ.cond (t := (.tmp 18)) (b := (eqv x8 a1)) eqv_iff (fun hc9 => ?_) (fun hc9 => ?_)
  ·exact SJ.sr 2 <| OJ.go 2 [(4, .int .i64 s2), (19, .int .i64 s2)] <| OJ.nil <| SJ.r1 (.int .i64 s2) rfl rfl
  ·exact SJ.skip <| SJ.inBlock <| SJ.rg 3 <| OJ.go 3 [(5, .int .i64 (IntKind.wrap .i64 (s2 + 1))), (11, .int .i64 (IntKind.wrap .i64 (s2 + 1))), (10, .int .i64 s2)] <| OJ.nil <| SJ.at_ [0, 3, 5] rfl
 ·exact SJ.exit (id := 0) (by rfl) <| SJ.sr 1 <| OJ.go 1 [(4, .int .i64 (-1))] <| OJ.nil <| SJ.r1 (.int .i64 (-1)) rfl rfl
noncomputable def weirref14_at (a0 : Sl) (a1 : api_Prefix) : M Int :=
 slot 30 >>= fun b1 =>
 loopM (fun s_ : Int => weirref14_at.L1 a0 a1 s_) 0
theorem weirref14_at_ok (a0 : Sl) (a1 : api_Prefix) : Ref Tryd.prog 36 [Sl.v a0, c_api_Prefix.val a1] (weirref14_at a0 a1) weirref14_at.out := by
 refine Ref.of (cd := weirref14_at.B) Tryd.func36 ?_
 show SJ weirref14_at.cx [.code weirref14_at.B] [(0, Sl.v a0), (1, c_api_Prefix.val a1)] [] (weirref14_at a0 a1) weirref14_at.F0
 unfold weirref14_at
 refine SJ.sr 2 <| OJ.slotOf (d := 3) (op := (.box 30 (.tmp 1))) (cd := c_api_Prefix) (u := a1) (owed := []) (box_run (by kernel_rfl)) (fun b1 => ?_)
 exact OW.nil <| OJ.go 1 [(4, .int .i64 0)] <| OJ.nil <| SJ.seq <| SJ.sr 1 <| OJ.go 1 [(5, .int .i64 0)] <| OJ.nil <| SJ.block (id := 0) <| SJ.loop (fun s_ : Int => [(0, Sl.v a0), (3, .pointer (some (pt b1 0))), (5, .int .i64 s_)]) (fun s_ : Int => [(b1, c_api_Prefix.enc a1)]) [0, 3, 5] rfl (fun _ _ => rfl) (fun s_ => weirref14_at.L1_ok a0 a1 b1 s_)
end Go.Proofs.YtfgcobigollfjaaDoor.Lx
