/- Programs of the M-world for Go functions, each with the proof that the Go text does what it says. Printed by lxgen.py. -/
import Derived.Test.YtlkhijflgbobjaaLxT
import Derived.Test.YtlkhijflgbobjaaLxP0
import Derived.Test.YtlkhijflgbobjaaLxP1
import Derived.Test.YtlkhijflgbobjaaLxP2
set_option linter.unusedVariables false
set_option linter.unusedSimpArgs false
namespace Go.Proofs.Ytlkhijflgbobjaa.Lx
open Go Go.Proofs
/-! ### (*weir/weirlaw15.Book).keep: function 38 -/
noncomputable def weirlaw15_Book_keep.B : Code := (Try.f38.body).getD .skip
noncomputable def weirlaw15_Book_keep.cx : Fx := ⟨Try.prog, 38, Try.f38⟩
noncomputable def weirlaw15_Book_keep.out (r_ : Unit) : Value := .tuple #[]
noncomputable def weirlaw15_Book_keep.F0 (r_ : Unit) : Reach := .ret (weirlaw15_Book_keep.out r_)
noncomputable def weirlaw15_Book_keep.K1 (a0 : (Option Addr)) (a1 : Sl) (a2 : Sl) (a3 : Sl) (x2 : Sl) : M Unit :=
  slot 3 >>= fun b12 =>
  appl (cI .i64) 3 8 0 a1 [IntKind.wrap .i64 ((-100) - (x2.len : Int))] >>= fun r13 =>
  slot 3 >>= fun b14 =>
  appl (cI .i64) 3 8 0 a1 [IntKind.wrap .i64 ((-100) - (x2.len : Int)), IntKind.wrap .i64 ((-100) - (x2.len : Int))] >>= fun r15 =>
  slot 77 >>= fun b16 =>
  appl c_api_Neighbour 77 72 z_api_Neighbour a2 [(⟨IntKind.wrap .i64 ((-100) - (x2.len : Int)), z_api_Neighbour.IP, z_api_Neighbour.Mac, z_api_Neighbour.State, z_api_Neighbour.Age, z_api_Neighbour.Tries, z_api_Neighbour.Waiting⟩ : api_Neighbour)] >>= fun r17 =>
  slot 77 >>= fun b18 =>
  appl c_api_Neighbour 77 72 z_api_Neighbour a2 [(⟨IntKind.wrap .i64 ((-100) - (x2.len : Int)), z_api_Neighbour.IP, z_api_Neighbour.Mac, z_api_Neighbour.State, z_api_Neighbour.Age, z_api_Neighbour.Tries, z_api_Neighbour.Waiting⟩ : api_Neighbour), (⟨IntKind.wrap .i64 ((-100) - (x2.len : Int)), z_api_Neighbour.IP, z_api_Neighbour.Mac, z_api_Neighbour.State, z_api_Neighbour.Age, z_api_Neighbour.Tries, z_api_Neighbour.Waiting⟩ : api_Neighbour)] >>= fun r19 =>
  slot 111 >>= fun b20 =>
  appl c_api_Ask 111 48 z_api_Ask a3 [(⟨IntKind.wrap .i64 ((-100) - (x2.len : Int)), z_api_Ask.IP, z_api_Ask.Mac, z_api_Ask.Try⟩ : api_Ask)] >>= fun r21 =>
  slot 111 >>= fun b22 =>
  appl c_api_Ask 111 48 z_api_Ask a3 [(⟨IntKind.wrap .i64 ((-100) - (x2.len : Int)), z_api_Ask.IP, z_api_Ask.Mac, z_api_Ask.Try⟩ : api_Ask), (⟨IntKind.wrap .i64 ((-100) - (x2.len : Int)), z_api_Ask.IP, z_api_Ask.Mac, z_api_Ask.Try⟩ : api_Ask)] >>= fun r23 =>
  nilck a0 >>= fun p24 =>
  ld cL p24 >>= fun x25 =>
  slot 43 >>= fun b26 =>
  appl cL 43 24 Sl.nil x25 [a1, r13, r15] >>= fun r27 =>
  nilck a0 >>= fun p28 =>
  st cL p28 r27 >>= fun _ =>
  nilck a0 >>= fun p29 =>
  ld cL (Addr.add p29 1) >>= fun x30 =>
  slot 68 >>= fun b31 =>
  appl cL 68 24 Sl.nil x30 [a2, r17, r19] >>= fun r32 =>
  nilck a0 >>= fun p33 =>
  st cL (Addr.add p33 1) r32 >>= fun _ =>
  nilck a0 >>= fun p34 =>
  ld cL (Addr.add p34 2) >>= fun x35 =>
  slot 50 >>= fun b36 =>
  appl cL 50 24 Sl.nil x35 [a3, r21, r23] >>= fun r37 =>
  nilck a0 >>= fun p38 =>
  st cL (Addr.add p38 2) r37 >>= fun _ =>
  pure ()
theorem weirlaw15_Book_keep.K1_ok (a0 : (Option Addr)) (a1 : Sl) (a2 : Sl) (a3 : Sl) (x2 : Sl) :
    SJ weirlaw15_Book_keep.cx [.code (c2 (c2 (c2 (c2 weirlaw15_Book_keep.B))))] [(0, .pointer a0), (1, Sl.v a1), (2, Sl.v a2), (3, Sl.v a3), (8, .int .i64 (IntKind.wrap .i64 ((-100) - (x2.len : Int))))] [] (weirlaw15_Book_keep.K1 a0 a1 a2 a3 x2) weirlaw15_Book_keep.F0 := by
  unfold weirlaw15_Book_keep.K1
  refine SJ.sr 5 ?_
  refine OJ.go 2 [(57, .int .i64 (IntKind.wrap .i64 ((-100) - (x2.len : Int)))), (56, Sl.v a1)] ?_
  refine OJ.rowSlot (d := 58) (t := 43) (parts := [(0, .tmp 57)]) (ps := [(0, (cI .i64).val (IntKind.wrap .i64 ((-100) - (x2.len : Int))))]) (cd := (cI .i64)) (⟨[IntKind.wrap .i64 ((-100) - (x2.len : Int))], rfl⟩ : Vec Int 1) (owed := []) Ty3 (Filled.cons (cd := (cI .i64)) (q := (IntKind.wrap .i64 ((-100) - (x2.len : Int)))) (o := 0) rfl (Upd.arr (i := 0) (by decide) (by decide)) Filled.nil) (fun b12 => ?_)
  refine OW.nil ?_
  refine OJ.appl (d := 59) (t := 43) (u := 43) (so := .tmp 56) (xo := .tmp 58) (j := 0) (b := b12) (l := ((cI .i64).arr 1).enc (⟨[IntKind.wrap .i64 ((-100) - (x2.len : Int))], rfl⟩ : Vec Int 1)) (n := 1) (k := 1) [IntKind.wrap .i64 ((-100) - (x2.len : Int))] (owed := []) Ty3 (by rfl) (Cod.arr_enc _ _ _) (by rfl) (fun r13 => ?_)
  refine OW.nil ?_
  refine OJ.go 1 [(12, Sl.v r13)] ?_
  refine OJ.nil ?_
  refine SJ.sr 6 ?_
  refine OJ.go 3 [(62, .int .i64 (IntKind.wrap .i64 ((-100) - (x2.len : Int)))), (61, .int .i64 (IntKind.wrap .i64 ((-100) - (x2.len : Int)))), (60, Sl.v a1)] ?_
  refine OJ.rowSlot (d := 63) (t := 43) (parts := [(0, .tmp 61), (1, .tmp 62)]) (ps := [(0, (cI .i64).val (IntKind.wrap .i64 ((-100) - (x2.len : Int)))), (1, (cI .i64).val (IntKind.wrap .i64 ((-100) - (x2.len : Int))))]) (cd := (cI .i64)) (⟨[IntKind.wrap .i64 ((-100) - (x2.len : Int)), IntKind.wrap .i64 ((-100) - (x2.len : Int))], rfl⟩ : Vec Int 2) (owed := []) Ty3 (Filled.cons (cd := (cI .i64)) (q := (IntKind.wrap .i64 ((-100) - (x2.len : Int)))) (o := 0) rfl (Upd.arr (i := 0) (by decide) (by decide)) (Filled.cons (cd := (cI .i64)) (q := (IntKind.wrap .i64 ((-100) - (x2.len : Int)))) (o := 1) rfl (Upd.arr (i := 1) (by decide) (by decide)) Filled.nil)) (fun b14 => ?_)
  refine OW.nil ?_
  refine OJ.appl (d := 64) (t := 43) (u := 43) (so := .tmp 60) (xo := .tmp 63) (j := 0) (b := b14) (l := ((cI .i64).arr 2).enc (⟨[IntKind.wrap .i64 ((-100) - (x2.len : Int)), IntKind.wrap .i64 ((-100) - (x2.len : Int))], rfl⟩ : Vec Int 2)) (n := 2) (k := 2) [IntKind.wrap .i64 ((-100) - (x2.len : Int)), IntKind.wrap .i64 ((-100) - (x2.len : Int))] (owed := []) Ty3 (by rfl) (Cod.arr_enc _ _ _) (by rfl) (fun r15 => ?_)
  refine OW.nil ?_
  refine OJ.go 1 [(13, Sl.v r15)] ?_
  refine OJ.nil ?_
  refine SJ.sr 6 ?_
  refine OJ.go 2 [(66, .int .i64 (IntKind.wrap .i64 ((-100) - (x2.len : Int)))), (65, Sl.v a2)] ?_
  refine OJ.build (d := 67) (T := 77) (parts := [(0, .tmp 66)]) (ps := [(0, (cI .i64).val (IntKind.wrap .i64 ((-100) - (x2.len : Int))))]) (cd := c_api_Neighbour) (z0 := z_api_Neighbour) (⟨IntKind.wrap .i64 ((-100) - (x2.len : Int)), z_api_Neighbour.IP, z_api_Neighbour.Mac, z_api_Neighbour.State, z_api_Neighbour.Age, z_api_Neighbour.Tries, z_api_Neighbour.Waiting⟩ : api_Neighbour) Ty77 rfl (Filled.cons (cd := (cI .i64)) (q := (IntKind.wrap .i64 ((-100) - (x2.len : Int)))) (o := 0) (by kernel_rfl) (Up_api_Neighbour_Port z_api_Neighbour (IntKind.wrap .i64 ((-100) - (x2.len : Int)))) Filled.nil) ?_
  refine OJ.rowSlot (d := 68) (t := 68) (parts := [(0, .tmp 67)]) (ps := [(0, c_api_Neighbour.val (⟨IntKind.wrap .i64 ((-100) - (x2.len : Int)), z_api_Neighbour.IP, z_api_Neighbour.Mac, z_api_Neighbour.State, z_api_Neighbour.Age, z_api_Neighbour.Tries, z_api_Neighbour.Waiting⟩ : api_Neighbour))]) (cd := c_api_Neighbour) (⟨[(⟨IntKind.wrap .i64 ((-100) - (x2.len : Int)), z_api_Neighbour.IP, z_api_Neighbour.Mac, z_api_Neighbour.State, z_api_Neighbour.Age, z_api_Neighbour.Tries, z_api_Neighbour.Waiting⟩ : api_Neighbour)], rfl⟩ : Vec api_Neighbour 1) (owed := []) Ty77 (Filled.cons (cd := c_api_Neighbour) (q := (⟨IntKind.wrap .i64 ((-100) - (x2.len : Int)), z_api_Neighbour.IP, z_api_Neighbour.Mac, z_api_Neighbour.State, z_api_Neighbour.Age, z_api_Neighbour.Tries, z_api_Neighbour.Waiting⟩ : api_Neighbour)) (o := 0) rfl (Upd.arr (i := 0) (by decide) (by decide)) Filled.nil) (fun b16 => ?_)
  refine OW.nil ?_
  refine OJ.appl (d := 69) (t := 68) (u := 68) (so := .tmp 65) (xo := .tmp 68) (j := 0) (b := b16) (l := (c_api_Neighbour.arr 1).enc (⟨[(⟨IntKind.wrap .i64 ((-100) - (x2.len : Int)), z_api_Neighbour.IP, z_api_Neighbour.Mac, z_api_Neighbour.State, z_api_Neighbour.Age, z_api_Neighbour.Tries, z_api_Neighbour.Waiting⟩ : api_Neighbour)], rfl⟩ : Vec api_Neighbour 1)) (n := 1) (k := 1) [(⟨IntKind.wrap .i64 ((-100) - (x2.len : Int)), z_api_Neighbour.IP, z_api_Neighbour.Mac, z_api_Neighbour.State, z_api_Neighbour.Age, z_api_Neighbour.Tries, z_api_Neighbour.Waiting⟩ : api_Neighbour)] (owed := []) Ty77 (by rfl) (Cod.arr_enc _ _ _) (by rfl) (fun r17 => ?_)
  refine OW.nil ?_
  refine OJ.go 1 [(14, Sl.v r17)] ?_
  refine OJ.nil ?_
  refine SJ.sr 8 ?_
  refine OJ.go 2 [(71, .int .i64 (IntKind.wrap .i64 ((-100) - (x2.len : Int)))), (70, Sl.v a2)] ?_
  refine OJ.build (d := 72) (T := 77) (parts := [(0, .tmp 71)]) (ps := [(0, (cI .i64).val (IntKind.wrap .i64 ((-100) - (x2.len : Int))))]) (cd := c_api_Neighbour) (z0 := z_api_Neighbour) (⟨IntKind.wrap .i64 ((-100) - (x2.len : Int)), z_api_Neighbour.IP, z_api_Neighbour.Mac, z_api_Neighbour.State, z_api_Neighbour.Age, z_api_Neighbour.Tries, z_api_Neighbour.Waiting⟩ : api_Neighbour) Ty77 rfl (Filled.cons (cd := (cI .i64)) (q := (IntKind.wrap .i64 ((-100) - (x2.len : Int)))) (o := 0) (by kernel_rfl) (Up_api_Neighbour_Port z_api_Neighbour (IntKind.wrap .i64 ((-100) - (x2.len : Int)))) Filled.nil) ?_
  refine OJ.go 1 [(73, .int .i64 (IntKind.wrap .i64 ((-100) - (x2.len : Int))))] ?_
  refine OJ.build (d := 74) (T := 77) (parts := [(0, .tmp 73)]) (ps := [(0, (cI .i64).val (IntKind.wrap .i64 ((-100) - (x2.len : Int))))]) (cd := c_api_Neighbour) (z0 := z_api_Neighbour) (⟨IntKind.wrap .i64 ((-100) - (x2.len : Int)), z_api_Neighbour.IP, z_api_Neighbour.Mac, z_api_Neighbour.State, z_api_Neighbour.Age, z_api_Neighbour.Tries, z_api_Neighbour.Waiting⟩ : api_Neighbour) Ty77 rfl (Filled.cons (cd := (cI .i64)) (q := (IntKind.wrap .i64 ((-100) - (x2.len : Int)))) (o := 0) (by kernel_rfl) (Up_api_Neighbour_Port z_api_Neighbour (IntKind.wrap .i64 ((-100) - (x2.len : Int)))) Filled.nil) ?_
  refine OJ.rowSlot (d := 75) (t := 68) (parts := [(0, .tmp 72), (1, .tmp 74)]) (ps := [(0, c_api_Neighbour.val (⟨IntKind.wrap .i64 ((-100) - (x2.len : Int)), z_api_Neighbour.IP, z_api_Neighbour.Mac, z_api_Neighbour.State, z_api_Neighbour.Age, z_api_Neighbour.Tries, z_api_Neighbour.Waiting⟩ : api_Neighbour)), (1, c_api_Neighbour.val (⟨IntKind.wrap .i64 ((-100) - (x2.len : Int)), z_api_Neighbour.IP, z_api_Neighbour.Mac, z_api_Neighbour.State, z_api_Neighbour.Age, z_api_Neighbour.Tries, z_api_Neighbour.Waiting⟩ : api_Neighbour))]) (cd := c_api_Neighbour) (⟨[(⟨IntKind.wrap .i64 ((-100) - (x2.len : Int)), z_api_Neighbour.IP, z_api_Neighbour.Mac, z_api_Neighbour.State, z_api_Neighbour.Age, z_api_Neighbour.Tries, z_api_Neighbour.Waiting⟩ : api_Neighbour), (⟨IntKind.wrap .i64 ((-100) - (x2.len : Int)), z_api_Neighbour.IP, z_api_Neighbour.Mac, z_api_Neighbour.State, z_api_Neighbour.Age, z_api_Neighbour.Tries, z_api_Neighbour.Waiting⟩ : api_Neighbour)], rfl⟩ : Vec api_Neighbour 2) (owed := []) Ty77 (Filled.cons (cd := c_api_Neighbour) (q := (⟨IntKind.wrap .i64 ((-100) - (x2.len : Int)), z_api_Neighbour.IP, z_api_Neighbour.Mac, z_api_Neighbour.State, z_api_Neighbour.Age, z_api_Neighbour.Tries, z_api_Neighbour.Waiting⟩ : api_Neighbour)) (o := 0) rfl (Upd.arr (i := 0) (by decide) (by decide)) (Filled.cons (cd := c_api_Neighbour) (q := (⟨IntKind.wrap .i64 ((-100) - (x2.len : Int)), z_api_Neighbour.IP, z_api_Neighbour.Mac, z_api_Neighbour.State, z_api_Neighbour.Age, z_api_Neighbour.Tries, z_api_Neighbour.Waiting⟩ : api_Neighbour)) (o := 28) rfl (Upd.arr (i := 1) (by decide) (by decide)) Filled.nil)) (fun b18 => ?_)
  refine OW.nil ?_
  refine OJ.appl (d := 76) (t := 68) (u := 68) (so := .tmp 70) (xo := .tmp 75) (j := 0) (b := b18) (l := (c_api_Neighbour.arr 2).enc (⟨[(⟨IntKind.wrap .i64 ((-100) - (x2.len : Int)), z_api_Neighbour.IP, z_api_Neighbour.Mac, z_api_Neighbour.State, z_api_Neighbour.Age, z_api_Neighbour.Tries, z_api_Neighbour.Waiting⟩ : api_Neighbour), (⟨IntKind.wrap .i64 ((-100) - (x2.len : Int)), z_api_Neighbour.IP, z_api_Neighbour.Mac, z_api_Neighbour.State, z_api_Neighbour.Age, z_api_Neighbour.Tries, z_api_Neighbour.Waiting⟩ : api_Neighbour)], rfl⟩ : Vec api_Neighbour 2)) (n := 2) (k := 2) [(⟨IntKind.wrap .i64 ((-100) - (x2.len : Int)), z_api_Neighbour.IP, z_api_Neighbour.Mac, z_api_Neighbour.State, z_api_Neighbour.Age, z_api_Neighbour.Tries, z_api_Neighbour.Waiting⟩ : api_Neighbour), (⟨IntKind.wrap .i64 ((-100) - (x2.len : Int)), z_api_Neighbour.IP, z_api_Neighbour.Mac, z_api_Neighbour.State, z_api_Neighbour.Age, z_api_Neighbour.Tries, z_api_Neighbour.Waiting⟩ : api_Neighbour)] (owed := []) Ty77 (by rfl) (Cod.arr_enc _ _ _) (by rfl) (fun r19 => ?_)
  refine OW.nil ?_
  refine OJ.go 1 [(15, Sl.v r19)] ?_
  refine OJ.nil ?_
  refine SJ.sr 6 ?_
  refine OJ.go 2 [(78, .int .i64 (IntKind.wrap .i64 ((-100) - (x2.len : Int)))), (77, Sl.v a3)] ?_
  refine OJ.build (d := 79) (T := 111) (parts := [(0, .tmp 78)]) (ps := [(0, (cI .i64).val (IntKind.wrap .i64 ((-100) - (x2.len : Int))))]) (cd := c_api_Ask) (z0 := z_api_Ask) (⟨IntKind.wrap .i64 ((-100) - (x2.len : Int)), z_api_Ask.IP, z_api_Ask.Mac, z_api_Ask.Try⟩ : api_Ask) Ty111 rfl (Filled.cons (cd := (cI .i64)) (q := (IntKind.wrap .i64 ((-100) - (x2.len : Int)))) (o := 0) (by kernel_rfl) (Up_api_Ask_Port z_api_Ask (IntKind.wrap .i64 ((-100) - (x2.len : Int)))) Filled.nil) ?_
  refine OJ.rowSlot (d := 80) (t := 50) (parts := [(0, .tmp 79)]) (ps := [(0, c_api_Ask.val (⟨IntKind.wrap .i64 ((-100) - (x2.len : Int)), z_api_Ask.IP, z_api_Ask.Mac, z_api_Ask.Try⟩ : api_Ask))]) (cd := c_api_Ask) (⟨[(⟨IntKind.wrap .i64 ((-100) - (x2.len : Int)), z_api_Ask.IP, z_api_Ask.Mac, z_api_Ask.Try⟩ : api_Ask)], rfl⟩ : Vec api_Ask 1) (owed := []) Ty111 (Filled.cons (cd := c_api_Ask) (q := (⟨IntKind.wrap .i64 ((-100) - (x2.len : Int)), z_api_Ask.IP, z_api_Ask.Mac, z_api_Ask.Try⟩ : api_Ask)) (o := 0) rfl (Upd.arr (i := 0) (by decide) (by decide)) Filled.nil) (fun b20 => ?_)
  refine OW.nil ?_
  refine OJ.appl (d := 81) (t := 50) (u := 50) (so := .tmp 77) (xo := .tmp 80) (j := 0) (b := b20) (l := (c_api_Ask.arr 1).enc (⟨[(⟨IntKind.wrap .i64 ((-100) - (x2.len : Int)), z_api_Ask.IP, z_api_Ask.Mac, z_api_Ask.Try⟩ : api_Ask)], rfl⟩ : Vec api_Ask 1)) (n := 1) (k := 1) [(⟨IntKind.wrap .i64 ((-100) - (x2.len : Int)), z_api_Ask.IP, z_api_Ask.Mac, z_api_Ask.Try⟩ : api_Ask)] (owed := []) Ty111 (by rfl) (Cod.arr_enc _ _ _) (by rfl) (fun r21 => ?_)
  refine OW.nil ?_
  refine OJ.go 1 [(16, Sl.v r21)] ?_
  refine OJ.nil ?_
  refine SJ.sr 8 ?_
  refine OJ.go 2 [(83, .int .i64 (IntKind.wrap .i64 ((-100) - (x2.len : Int)))), (82, Sl.v a3)] ?_
  refine OJ.build (d := 84) (T := 111) (parts := [(0, .tmp 83)]) (ps := [(0, (cI .i64).val (IntKind.wrap .i64 ((-100) - (x2.len : Int))))]) (cd := c_api_Ask) (z0 := z_api_Ask) (⟨IntKind.wrap .i64 ((-100) - (x2.len : Int)), z_api_Ask.IP, z_api_Ask.Mac, z_api_Ask.Try⟩ : api_Ask) Ty111 rfl (Filled.cons (cd := (cI .i64)) (q := (IntKind.wrap .i64 ((-100) - (x2.len : Int)))) (o := 0) (by kernel_rfl) (Up_api_Ask_Port z_api_Ask (IntKind.wrap .i64 ((-100) - (x2.len : Int)))) Filled.nil) ?_
  refine OJ.go 1 [(85, .int .i64 (IntKind.wrap .i64 ((-100) - (x2.len : Int))))] ?_
  refine OJ.build (d := 86) (T := 111) (parts := [(0, .tmp 85)]) (ps := [(0, (cI .i64).val (IntKind.wrap .i64 ((-100) - (x2.len : Int))))]) (cd := c_api_Ask) (z0 := z_api_Ask) (⟨IntKind.wrap .i64 ((-100) - (x2.len : Int)), z_api_Ask.IP, z_api_Ask.Mac, z_api_Ask.Try⟩ : api_Ask) Ty111 rfl (Filled.cons (cd := (cI .i64)) (q := (IntKind.wrap .i64 ((-100) - (x2.len : Int)))) (o := 0) (by kernel_rfl) (Up_api_Ask_Port z_api_Ask (IntKind.wrap .i64 ((-100) - (x2.len : Int)))) Filled.nil) ?_
  refine OJ.rowSlot (d := 87) (t := 50) (parts := [(0, .tmp 84), (1, .tmp 86)]) (ps := [(0, c_api_Ask.val (⟨IntKind.wrap .i64 ((-100) - (x2.len : Int)), z_api_Ask.IP, z_api_Ask.Mac, z_api_Ask.Try⟩ : api_Ask)), (1, c_api_Ask.val (⟨IntKind.wrap .i64 ((-100) - (x2.len : Int)), z_api_Ask.IP, z_api_Ask.Mac, z_api_Ask.Try⟩ : api_Ask))]) (cd := c_api_Ask) (⟨[(⟨IntKind.wrap .i64 ((-100) - (x2.len : Int)), z_api_Ask.IP, z_api_Ask.Mac, z_api_Ask.Try⟩ : api_Ask), (⟨IntKind.wrap .i64 ((-100) - (x2.len : Int)), z_api_Ask.IP, z_api_Ask.Mac, z_api_Ask.Try⟩ : api_Ask)], rfl⟩ : Vec api_Ask 2) (owed := []) Ty111 (Filled.cons (cd := c_api_Ask) (q := (⟨IntKind.wrap .i64 ((-100) - (x2.len : Int)), z_api_Ask.IP, z_api_Ask.Mac, z_api_Ask.Try⟩ : api_Ask)) (o := 0) rfl (Upd.arr (i := 0) (by decide) (by decide)) (Filled.cons (cd := c_api_Ask) (q := (⟨IntKind.wrap .i64 ((-100) - (x2.len : Int)), z_api_Ask.IP, z_api_Ask.Mac, z_api_Ask.Try⟩ : api_Ask)) (o := 25) rfl (Upd.arr (i := 1) (by decide) (by decide)) Filled.nil)) (fun b22 => ?_)
  refine OW.nil ?_
  refine OJ.appl (d := 88) (t := 50) (u := 50) (so := .tmp 82) (xo := .tmp 87) (j := 0) (b := b22) (l := (c_api_Ask.arr 2).enc (⟨[(⟨IntKind.wrap .i64 ((-100) - (x2.len : Int)), z_api_Ask.IP, z_api_Ask.Mac, z_api_Ask.Try⟩ : api_Ask), (⟨IntKind.wrap .i64 ((-100) - (x2.len : Int)), z_api_Ask.IP, z_api_Ask.Mac, z_api_Ask.Try⟩ : api_Ask)], rfl⟩ : Vec api_Ask 2)) (n := 2) (k := 2) [(⟨IntKind.wrap .i64 ((-100) - (x2.len : Int)), z_api_Ask.IP, z_api_Ask.Mac, z_api_Ask.Try⟩ : api_Ask), (⟨IntKind.wrap .i64 ((-100) - (x2.len : Int)), z_api_Ask.IP, z_api_Ask.Mac, z_api_Ask.Try⟩ : api_Ask)] (owed := []) Ty111 (by rfl) (Cod.arr_enc _ _ _) (by rfl) (fun r23 => ?_)
  refine OW.nil ?_
  refine OJ.go 1 [(17, Sl.v r23)] ?_
  refine OJ.nil ?_
  refine SJ.sr 13 ?_
  refine OJ.go 2 [(90, .pointer a0), (89, .pointer a0)] ?_
  refine OJ.nilck (d := 91) (y := .tmp 90) (fun p24 => ?_)
  refine OJ.go 1 [(92, .pointer (some p24))] ?_
  refine OJ.ld (d := 93) (y := .tmp 92) (pend2 := fun x25 => []) Ty56 (fun _ => rfl) (fun x25 => ?_)
  refine OJ.go 3 [(96, Sl.v r15), (95, Sl.v r13), (94, Sl.v a1)] ?_
  refine OJ.rowSlot (d := 97) (t := 56) (parts := [(0, .tmp 94), (1, .tmp 95), (2, .tmp 96)]) (ps := [(0, cL.val a1), (1, cL.val r13), (2, cL.val r15)]) (cd := cL) (⟨[a1, r13, r15], rfl⟩ : Vec Sl 3) (owed := []) Ty43 (Filled.cons (cd := cL) (q := a1) (o := 0) rfl (Upd.arr (i := 0) (by decide) (by decide)) (Filled.cons (cd := cL) (q := r13) (o := 1) rfl (Upd.arr (i := 1) (by decide) (by decide)) (Filled.cons (cd := cL) (q := r15) (o := 2) rfl (Upd.arr (i := 2) (by decide) (by decide)) Filled.nil))) (fun b26 => ?_)
  refine OW.nil ?_
  refine OJ.appl (d := 98) (t := 56) (u := 56) (so := .tmp 93) (xo := .tmp 97) (j := 0) (b := b26) (l := (cL.arr 3).enc (⟨[a1, r13, r15], rfl⟩ : Vec Sl 3)) (n := 3) (k := 3) [a1, r13, r15] (owed := []) Ty43 (by rfl) (Cod.arr_enc _ _ _) (by rfl) (fun r27 => ?_)
  refine OW.nil ?_
  refine OJ.nilck (d := 99) (y := .tmp 89) (fun p28 => ?_)
  refine OJ.go 1 [(100, .pointer (some p28))] ?_
  refine OJ.st (y := .tmp 100) (z := .tmp 98) (owed := []) Ty56 ?_
  refine OW.nil ?_
  refine OJ.nil ?_
  refine SJ.sr 13 ?_
  refine OJ.go 2 [(102, .pointer a0), (101, .pointer a0)] ?_
  refine OJ.nilck (d := 103) (y := .tmp 102) (fun p29 => ?_)
  refine OJ.go 1 [(104, .pointer (some (Addr.add p29 1)))] ?_
  refine OJ.ld (d := 105) (y := .tmp 104) (pend2 := fun x30 => []) Ty60 (fun _ => rfl) (fun x30 => ?_)
  refine OJ.go 3 [(108, Sl.v r19), (107, Sl.v r17), (106, Sl.v a2)] ?_
  refine OJ.rowSlot (d := 109) (t := 60) (parts := [(0, .tmp 106), (1, .tmp 107), (2, .tmp 108)]) (ps := [(0, cL.val a2), (1, cL.val r17), (2, cL.val r19)]) (cd := cL) (⟨[a2, r17, r19], rfl⟩ : Vec Sl 3) (owed := []) Ty68 (Filled.cons (cd := cL) (q := a2) (o := 0) rfl (Upd.arr (i := 0) (by decide) (by decide)) (Filled.cons (cd := cL) (q := r17) (o := 1) rfl (Upd.arr (i := 1) (by decide) (by decide)) (Filled.cons (cd := cL) (q := r19) (o := 2) rfl (Upd.arr (i := 2) (by decide) (by decide)) Filled.nil))) (fun b31 => ?_)
  refine OW.nil ?_
  refine OJ.appl (d := 110) (t := 60) (u := 60) (so := .tmp 105) (xo := .tmp 109) (j := 0) (b := b31) (l := (cL.arr 3).enc (⟨[a2, r17, r19], rfl⟩ : Vec Sl 3)) (n := 3) (k := 3) [a2, r17, r19] (owed := []) Ty68 (by rfl) (Cod.arr_enc _ _ _) (by rfl) (fun r32 => ?_)
  refine OW.nil ?_
  refine OJ.nilck (d := 111) (y := .tmp 101) (fun p33 => ?_)
  refine OJ.go 1 [(112, .pointer (some (Addr.add p33 1)))] ?_
  refine OJ.st (y := .tmp 112) (z := .tmp 110) (owed := []) Ty60 ?_
  refine OW.nil ?_
  refine OJ.nil ?_
  refine SJ.rg 13 ?_
  refine OJ.go 2 [(114, .pointer a0), (113, .pointer a0)] ?_
  refine OJ.nilck (d := 115) (y := .tmp 114) (fun p34 => ?_)
  refine OJ.go 1 [(116, .pointer (some (Addr.add p34 2)))] ?_
  refine OJ.ld (d := 117) (y := .tmp 116) (pend2 := fun x35 => []) Ty61 (fun _ => rfl) (fun x35 => ?_)
  refine OJ.go 3 [(120, Sl.v r23), (119, Sl.v r21), (118, Sl.v a3)] ?_
  refine OJ.rowSlot (d := 121) (t := 61) (parts := [(0, .tmp 118), (1, .tmp 119), (2, .tmp 120)]) (ps := [(0, cL.val a3), (1, cL.val r21), (2, cL.val r23)]) (cd := cL) (⟨[a3, r21, r23], rfl⟩ : Vec Sl 3) (owed := []) Ty50 (Filled.cons (cd := cL) (q := a3) (o := 0) rfl (Upd.arr (i := 0) (by decide) (by decide)) (Filled.cons (cd := cL) (q := r21) (o := 1) rfl (Upd.arr (i := 1) (by decide) (by decide)) (Filled.cons (cd := cL) (q := r23) (o := 2) rfl (Upd.arr (i := 2) (by decide) (by decide)) Filled.nil))) (fun b36 => ?_)
  refine OW.nil ?_
  refine OJ.appl (d := 122) (t := 61) (u := 61) (so := .tmp 117) (xo := .tmp 121) (j := 0) (b := b36) (l := (cL.arr 3).enc (⟨[a3, r21, r23], rfl⟩ : Vec Sl 3)) (n := 3) (k := 3) [a3, r21, r23] (owed := []) Ty50 (by rfl) (Cod.arr_enc _ _ _) (by rfl) (fun r37 => ?_)
  refine OW.nil ?_
  refine OJ.nilck (d := 123) (y := .tmp 113) (fun p38 => ?_)
  refine OJ.go 1 [(124, .pointer (some (Addr.add p38 2)))] ?_
  refine OJ.st (y := .tmp 124) (z := .tmp 122) (owed := []) Ty61 ?_
  refine OW.nil ?_
  refine OJ.nil ?_
  exact SJ.end_ rfl (Res.run (ys := []) .nil rfl)
noncomputable def weirlaw15_Book_keep.F1 (a0 : (Option Addr)) (a1 : Sl) (a2 : Sl) (a3 : Sl) (x2 : Sl) : (LS Int Unit) → Reach := loopF [.inLoop (c1 (c1 (c2 (c1 (c2 (c2 (c2 weirlaw15_Book_keep.B))))))), .inBlock 4, .code (c2 (c2 (c2 (c2 weirlaw15_Book_keep.B))))] (fun s_ : Int => [(0, .pointer a0), (1, Sl.v a1), (2, Sl.v a2), (3, Sl.v a3), (8, .int .i64 (IntKind.wrap .i64 ((-100) - (x2.len : Int)))), (11, .int .i64 s_)]) (fun s_ : Int => []) weirlaw15_Book_keep.F0
noncomputable def weirlaw15_Book_keep.L1 (a0 : (Option Addr)) (a1 : Sl) (a2 : Sl) (a3 : Sl) (x2 : Sl) (s9 : Int) : M (LS Int Unit) :=
  if s9 < (a3.len : Int) then
    idx a3.a a3.len s9 25 >>= fun p39 =>
    st (cI .i64) p39 (IntKind.wrap .i64 ((-100) - (x2.len : Int))) >>= fun _ =>
    pure (LS.next (IntKind.wrap .i64 (s9 + 1)))
  else
    (weirlaw15_Book_keep.K1 a0 a1 a2 a3 x2) >>= fun b => pure (LS.done b)
theorem weirlaw15_Book_keep.L1_ok (a0 : (Option Addr)) (a1 : Sl) (a2 : Sl) (a3 : Sl) (x2 : Sl) (s9 : Int) :
    SJ weirlaw15_Book_keep.cx [.code (c1 (c1 (c2 (c1 (c2 (c2 (c2 weirlaw15_Book_keep.B))))))), .inLoop (c1 (c1 (c2 (c1 (c2 (c2 (c2 weirlaw15_Book_keep.B))))))), .inBlock 4, .code (c2 (c2 (c2 (c2 weirlaw15_Book_keep.B))))] [(0, .pointer a0), (1, Sl.v a1), (2, Sl.v a2), (3, Sl.v a3), (8, .int .i64 (IntKind.wrap .i64 ((-100) - (x2.len : Int)))), (11, .int .i64 s9)] [] (weirlaw15_Book_keep.L1 a0 a1 a2 a3 x2 s9) (weirlaw15_Book_keep.F1 a0 a1 a2 a3 x2) := by
  unfold weirlaw15_Book_keep.L1
  refine SJ.seq ?_
  refine SJ.sr 4 ?_
  refine OJ.go 4 [(48, .bool (decide (s9 < (a3.len : Int)))), (47, .int .i64 (a3.len : Int)), (46, Sl.v a3), (45, .int .i64 s9)] ?_
  refine OJ.nil ?_
  refine SJ.cond (t := (.tmp 48)) (b := decide (s9 < (a3.len : Int))) decide_eq_true_iff (fun hc40 => ?_) (fun hc40 => ?_)
  · refine SJ.skip ?_
    refine SJ.seq ?_
    refine SJ.block (id := 5) ?_
    refine SJ.rg 6 ?_
    refine OJ.go 3 [(53, .int .i64 (IntKind.wrap .i64 ((-100) - (x2.len : Int)))), (52, .int .i64 s9), (51, Sl.v a3)] ?_
    refine OJ.idxS (d := 54) (T := 50) (y := .tmp 51) (j := .tmp 52) (E := 111) (cap := a3.cap) (k := .i64) (fun p39 => ?_)
    refine OJ.go 1 [(55, .pointer (some p39))] ?_
    refine OJ.st (y := .tmp 55) (z := .tmp 53) (owed := []) Ty3 ?_
    refine OW.nil ?_
    refine OJ.nil ?_
    refine SJ.inBlock ?_
    refine SJ.rg 3 ?_
    refine OJ.go 3 [(11, .int .i64 (IntKind.wrap .i64 (s9 + 1))), (50, .int .i64 (IntKind.wrap .i64 (s9 + 1))), (49, .int .i64 s9)] ?_
    refine OJ.nil ?_
    exact SJ.at_ [0, 1, 2, 3, 8, 11] rfl
  · refine SJ.exit (id := 4) (by rfl) ?_
    refine SJ.less [0, 1, 2, 3, 8] (m' := [(0, .pointer a0), (1, Sl.v a1), (2, Sl.v a2), (3, Sl.v a3), (8, .int .i64 (IntKind.wrap .i64 ((-100) - (x2.len : Int))))]) ?_
    refine SJ.done ?_
    exact weirlaw15_Book_keep.K1_ok a0 a1 a2 a3 x2
noncomputable def weirlaw15_Book_keep.K2 (a0 : (Option Addr)) (a1 : Sl) (a2 : Sl) (a3 : Sl) (x2 : Sl) : M Unit :=
  loopM (fun s_ : Int => weirlaw15_Book_keep.L1 a0 a1 a2 a3 x2 s_) 0
theorem weirlaw15_Book_keep.K2_ok (a0 : (Option Addr)) (a1 : Sl) (a2 : Sl) (a3 : Sl) (x2 : Sl) :
    SJ weirlaw15_Book_keep.cx [.code (c2 (c2 (c2 weirlaw15_Book_keep.B)))] [(0, .pointer a0), (1, Sl.v a1), (2, Sl.v a2), (3, Sl.v a3), (8, .int .i64 (IntKind.wrap .i64 ((-100) - (x2.len : Int))))] [] (weirlaw15_Book_keep.K2 a0 a1 a2 a3 x2) weirlaw15_Book_keep.F0 := by
  unfold weirlaw15_Book_keep.K2
  refine SJ.seq ?_
  refine SJ.sr 1 ?_
  refine OJ.go 1 [(11, .int .i64 0)] ?_
  refine OJ.nil ?_
  refine SJ.block (id := 4) ?_
  exact SJ.loop (fun s_ : Int => [(0, .pointer a0), (1, Sl.v a1), (2, Sl.v a2), (3, Sl.v a3), (8, .int .i64 (IntKind.wrap .i64 ((-100) - (x2.len : Int)))), (11, .int .i64 s_)]) (fun s_ : Int => []) [0, 1, 2, 3, 8, 11] rfl (fun _ _ => rfl) (fun s_ => weirlaw15_Book_keep.L1_ok a0 a1 a2 a3 x2 s_)
noncomputable def weirlaw15_Book_keep.F2 (a0 : (Option Addr)) (a1 : Sl) (a2 : Sl) (a3 : Sl) (x2 : Sl) : (LS Int Unit) → Reach := loopF [.inLoop (c1 (c1 (c2 (c1 (c2 (c2 weirlaw15_Book_keep.B)))))), .inBlock 2, .code (c2 (c2 (c2 weirlaw15_Book_keep.B)))] (fun s_ : Int => [(0, .pointer a0), (1, Sl.v a1), (2, Sl.v a2), (3, Sl.v a3), (8, .int .i64 (IntKind.wrap .i64 ((-100) - (x2.len : Int)))), (10, .int .i64 s_)]) (fun s_ : Int => []) weirlaw15_Book_keep.F0
noncomputable def weirlaw15_Book_keep.L2 (a0 : (Option Addr)) (a1 : Sl) (a2 : Sl) (a3 : Sl) (x2 : Sl) (s6 : Int) : M (LS Int Unit) :=
  if s6 < (a2.len : Int) then
    idx a2.a a2.len s6 28 >>= fun p41 =>
    st (cI .i64) p41 (IntKind.wrap .i64 ((-100) - (x2.len : Int))) >>= fun _ =>
    pure (LS.next (IntKind.wrap .i64 (s6 + 1)))
  else
    (weirlaw15_Book_keep.K2 a0 a1 a2 a3 x2) >>= fun b => pure (LS.done b)
theorem weirlaw15_Book_keep.L2_ok (a0 : (Option Addr)) (a1 : Sl) (a2 : Sl) (a3 : Sl) (x2 : Sl) (s6 : Int) :
    SJ weirlaw15_Book_keep.cx [.code (c1 (c1 (c2 (c1 (c2 (c2 weirlaw15_Book_keep.B)))))), .inLoop (c1 (c1 (c2 (c1 (c2 (c2 weirlaw15_Book_keep.B)))))), .inBlock 2, .code (c2 (c2 (c2 weirlaw15_Book_keep.B)))] [(0, .pointer a0), (1, Sl.v a1), (2, Sl.v a2), (3, Sl.v a3), (8, .int .i64 (IntKind.wrap .i64 ((-100) - (x2.len : Int)))), (10, .int .i64 s6)] [] (weirlaw15_Book_keep.L2 a0 a1 a2 a3 x2 s6) (weirlaw15_Book_keep.F2 a0 a1 a2 a3 x2) := by
  unfold weirlaw15_Book_keep.L2
  refine SJ.seq ?_
  refine SJ.sr 4 ?_
  refine OJ.go 4 [(37, .bool (decide (s6 < (a2.len : Int)))), (36, .int .i64 (a2.len : Int)), (35, Sl.v a2), (34, .int .i64 s6)] ?_
  refine OJ.nil ?_
  refine SJ.cond (t := (.tmp 37)) (b := decide (s6 < (a2.len : Int))) decide_eq_true_iff (fun hc42 => ?_) (fun hc42 => ?_)
  · refine SJ.skip ?_
    refine SJ.seq ?_
    refine SJ.block (id := 3) ?_
    refine SJ.rg 6 ?_
    refine OJ.go 3 [(42, .int .i64 (IntKind.wrap .i64 ((-100) - (x2.len : Int)))), (41, .int .i64 s6), (40, Sl.v a2)] ?_
    refine OJ.idxS (d := 43) (T := 68) (y := .tmp 40) (j := .tmp 41) (E := 77) (cap := a2.cap) (k := .i64) (fun p41 => ?_)
    refine OJ.go 1 [(44, .pointer (some p41))] ?_
    refine OJ.st (y := .tmp 44) (z := .tmp 42) (owed := []) Ty3 ?_
    refine OW.nil ?_
    refine OJ.nil ?_
    refine SJ.inBlock ?_
    refine SJ.rg 3 ?_
    refine OJ.go 3 [(10, .int .i64 (IntKind.wrap .i64 (s6 + 1))), (39, .int .i64 (IntKind.wrap .i64 (s6 + 1))), (38, .int .i64 s6)] ?_
    refine OJ.nil ?_
    exact SJ.at_ [0, 1, 2, 3, 8, 10] rfl
  · refine SJ.exit (id := 2) (by rfl) ?_
    refine SJ.less [0, 1, 2, 3, 8] (m' := [(0, .pointer a0), (1, Sl.v a1), (2, Sl.v a2), (3, Sl.v a3), (8, .int .i64 (IntKind.wrap .i64 ((-100) - (x2.len : Int))))]) ?_
    refine SJ.done ?_
    exact weirlaw15_Book_keep.K2_ok a0 a1 a2 a3 x2
noncomputable def weirlaw15_Book_keep.K3 (a0 : (Option Addr)) (a1 : Sl) (a2 : Sl) (a3 : Sl) (x2 : Sl) : M Unit :=
  loopM (fun s_ : Int => weirlaw15_Book_keep.L2 a0 a1 a2 a3 x2 s_) 0
theorem weirlaw15_Book_keep.K3_ok (a0 : (Option Addr)) (a1 : Sl) (a2 : Sl) (a3 : Sl) (x2 : Sl) :
    SJ weirlaw15_Book_keep.cx [.code (c2 (c2 weirlaw15_Book_keep.B))] [(0, .pointer a0), (1, Sl.v a1), (2, Sl.v a2), (3, Sl.v a3), (8, .int .i64 (IntKind.wrap .i64 ((-100) - (x2.len : Int))))] [] (weirlaw15_Book_keep.K3 a0 a1 a2 a3 x2) weirlaw15_Book_keep.F0 := by
  unfold weirlaw15_Book_keep.K3
  refine SJ.seq ?_
  refine SJ.sr 1 ?_
  refine OJ.go 1 [(10, .int .i64 0)] ?_
  refine OJ.nil ?_
  refine SJ.block (id := 2) ?_
  exact SJ.loop (fun s_ : Int => [(0, .pointer a0), (1, Sl.v a1), (2, Sl.v a2), (3, Sl.v a3), (8, .int .i64 (IntKind.wrap .i64 ((-100) - (x2.len : Int)))), (10, .int .i64 s_)]) (fun s_ : Int => []) [0, 1, 2, 3, 8, 10] rfl (fun _ _ => rfl) (fun s_ => weirlaw15_Book_keep.L2_ok a0 a1 a2 a3 x2 s_)
noncomputable def weirlaw15_Book_keep.F3 (a0 : (Option Addr)) (a1 : Sl) (a2 : Sl) (a3 : Sl) (x2 : Sl) : (LS Int Unit) → Reach := loopF [.inLoop (c1 (c1 (c2 (c1 (c2 weirlaw15_Book_keep.B))))), .inBlock 0, .code (c2 (c2 weirlaw15_Book_keep.B))] (fun s_ : Int => [(0, .pointer a0), (1, Sl.v a1), (2, Sl.v a2), (3, Sl.v a3), (8, .int .i64 (IntKind.wrap .i64 ((-100) - (x2.len : Int)))), (9, .int .i64 s_)]) (fun s_ : Int => []) weirlaw15_Book_keep.F0
noncomputable def weirlaw15_Book_keep.L3 (a0 : (Option Addr)) (a1 : Sl) (a2 : Sl) (a3 : Sl) (x2 : Sl) (s3 : Int) : M (LS Int Unit) :=
  if s3 < (a1.len : Int) then
    idx a1.a a1.len s3 1 >>= fun p43 =>
    st (cI .i64) p43 (IntKind.wrap .i64 ((-100) - (x2.len : Int))) >>= fun _ =>
    pure (LS.next (IntKind.wrap .i64 (s3 + 1)))
  else
    (weirlaw15_Book_keep.K3 a0 a1 a2 a3 x2) >>= fun b => pure (LS.done b)
theorem weirlaw15_Book_keep.L3_ok (a0 : (Option Addr)) (a1 : Sl) (a2 : Sl) (a3 : Sl) (x2 : Sl) (s3 : Int) :
    SJ weirlaw15_Book_keep.cx [.code (c1 (c1 (c2 (c1 (c2 weirlaw15_Book_keep.B))))), .inLoop (c1 (c1 (c2 (c1 (c2 weirlaw15_Book_keep.B))))), .inBlock 0, .code (c2 (c2 weirlaw15_Book_keep.B))] [(0, .pointer a0), (1, Sl.v a1), (2, Sl.v a2), (3, Sl.v a3), (8, .int .i64 (IntKind.wrap .i64 ((-100) - (x2.len : Int)))), (9, .int .i64 s3)] [] (weirlaw15_Book_keep.L3 a0 a1 a2 a3 x2 s3) (weirlaw15_Book_keep.F3 a0 a1 a2 a3 x2) := by
  unfold weirlaw15_Book_keep.L3
  refine SJ.seq ?_
  refine SJ.sr 4 ?_
  refine OJ.go 4 [(27, .bool (decide (s3 < (a1.len : Int)))), (26, .int .i64 (a1.len : Int)), (25, Sl.v a1), (24, .int .i64 s3)] ?_
  refine OJ.nil ?_
  refine SJ.cond (t := (.tmp 27)) (b := decide (s3 < (a1.len : Int))) decide_eq_true_iff (fun hc44 => ?_) (fun hc44 => ?_)
  · refine SJ.skip ?_
    refine SJ.seq ?_
    refine SJ.block (id := 1) ?_
    refine SJ.rg 5 ?_
    refine OJ.go 3 [(32, .int .i64 (IntKind.wrap .i64 ((-100) - (x2.len : Int)))), (31, .int .i64 s3), (30, Sl.v a1)] ?_
    refine OJ.idxS (d := 33) (T := 43) (y := .tmp 30) (j := .tmp 31) (E := 3) (cap := a1.cap) (k := .i64) (fun p43 => ?_)
    refine OJ.st (y := .tmp 33) (z := .tmp 32) (owed := []) Ty3 ?_
    refine OW.nil ?_
    refine OJ.nil ?_
    refine SJ.inBlock ?_
    refine SJ.rg 3 ?_
    refine OJ.go 3 [(9, .int .i64 (IntKind.wrap .i64 (s3 + 1))), (29, .int .i64 (IntKind.wrap .i64 (s3 + 1))), (28, .int .i64 s3)] ?_
    refine OJ.nil ?_
    exact SJ.at_ [0, 1, 2, 3, 8, 9] rfl
  · refine SJ.exit (id := 0) (by rfl) ?_
    refine SJ.less [0, 1, 2, 3, 8] (m' := [(0, .pointer a0), (1, Sl.v a1), (2, Sl.v a2), (3, Sl.v a3), (8, .int .i64 (IntKind.wrap .i64 ((-100) - (x2.len : Int))))]) ?_
    refine SJ.done ?_
    exact weirlaw15_Book_keep.K3_ok a0 a1 a2 a3 x2
noncomputable def weirlaw15_Book_keep (a0 : (Option Addr)) (a1 : Sl) (a2 : Sl) (a3 : Sl) : M Unit :=
  nilck a0 >>= fun p1 =>
  ld cL p1 >>= fun x2 =>
  loopM (fun s_ : Int => weirlaw15_Book_keep.L3 a0 a1 a2 a3 x2 s_) 0
theorem weirlaw15_Book_keep_ok (a0 : (Option Addr)) (a1 : Sl) (a2 : Sl) (a3 : Sl) : Ref Try.prog 38 [.pointer a0, Sl.v a1, Sl.v a2, Sl.v a3] (weirlaw15_Book_keep a0 a1 a2 a3) weirlaw15_Book_keep.out := by
  refine Ref.of (cd := weirlaw15_Book_keep.B) Try.func38 ?_
  show SJ weirlaw15_Book_keep.cx [.code weirlaw15_Book_keep.B] [(0, .pointer a0), (1, Sl.v a1), (2, Sl.v a2), (3, Sl.v a3)] [] (weirlaw15_Book_keep a0 a1 a2 a3) weirlaw15_Book_keep.F0
  unfold weirlaw15_Book_keep
  refine SJ.sr 7 ?_
  refine OJ.go 1 [(18, .pointer a0)] ?_
  refine OJ.nilck (d := 19) (y := .tmp 18) (fun p1 => ?_)
  refine OJ.go 1 [(20, .pointer (some p1))] ?_
  refine OJ.ld (d := 21) (y := .tmp 20) (pend2 := fun x2 => []) Ty56 (fun _ => rfl) (fun x2 => ?_)
  refine OJ.go 3 [(8, .int .i64 (IntKind.wrap .i64 ((-100) - (x2.len : Int)))), (23, .int .i64 (IntKind.wrap .i64 ((-100) - (x2.len : Int)))), (22, .int .i64 (x2.len : Int))] ?_
  refine OJ.nil ?_
  refine SJ.seq ?_
  refine SJ.sr 1 ?_
  refine OJ.go 1 [(9, .int .i64 0)] ?_
  refine OJ.nil ?_
  refine SJ.block (id := 0) ?_
  exact SJ.loop (fun s_ : Int => [(0, .pointer a0), (1, Sl.v a1), (2, Sl.v a2), (3, Sl.v a3), (8, .int .i64 (IntKind.wrap .i64 ((-100) - (x2.len : Int)))), (9, .int .i64 s_)]) (fun s_ : Int => []) [0, 1, 2, 3, 8, 9] rfl (fun _ _ => rfl) (fun s_ => weirlaw15_Book_keep.L3_ok a0 a1 a2 a3 x2 s_)

/-! ### (*weir/weirlaw15.Book).stands: function 39 -/
noncomputable def weirlaw15_Book_stands.B : Code := (Try.f39.body).getD .skip
noncomputable def weirlaw15_Book_stands.cx : Fx := ⟨Try.prog, 39, Try.f39⟩
noncomputable def weirlaw15_Book_stands.out (r_ : Bool) : Value := .bool r_
noncomputable def weirlaw15_Book_stands.F0 (r_ : Bool) : Reach := .ret (weirlaw15_Book_stands.out r_)
noncomputable def weirlaw15_Book_stands.F1 (a0 : (Option Addr)) : (LS Int Bool) → Reach := loopF [.inLoop (c1 (c1 (c2 (c1 (c2 weirlaw15_Book_stands.B))))), .inBlock 0, .code (c2 (c2 weirlaw15_Book_stands.B))] (fun s_ : Int => [(0, .pointer a0), (3, .int .i64 s_)]) (fun s_ : Int => []) weirlaw15_Book_stands.F0
noncomputable def weirlaw15_Book_stands.F2 (a0 : (Option Addr)) (s1 : Int) : (LS Int (LS Int Bool)) → Reach := loopF [.inLoop (c1 (c1 (c2 (c2 (c2 (c2 (c1 (c1 (c2 (c1 (c1 (c2 (c1 (c2 weirlaw15_Book_stands.B)))))))))))))), .inBlock 6, .inBlock 1, .code (c2 (c2 (c1 (c1 (c2 (c1 (c2 weirlaw15_Book_stands.B))))))), .inLoop (c1 (c1 (c2 (c1 (c2 weirlaw15_Book_stands.B))))), .inBlock 0, .code (c2 (c2 weirlaw15_Book_stands.B))] (fun s_ : Int => [(0, .pointer a0), (3, .int .i64 s1), (4, .int .i64 (IntKind.wrap .i64 ((-100) - (IntKind.wrap .i64 ((IntKind.wrap .i64 (Int.tdiv s1 3)) * 3))))), (7, .int .i64 s_)]) (fun s_ : Int => []) (weirlaw15_Book_stands.F1 a0)
noncomputable def weirlaw15_Book_stands.L2 (a0 : (Option Addr)) (s1 : Int) (s108 : Int) : M (LS Int (LS Int Bool)) :=
  nilck a0 >>= fun p121 =>
  ld cL (Addr.add p121 2) >>= fun x122 =>
  idx x122.a x122.len s1 1 >>= fun p123 =>
  ld cL p123 >>= fun x124 =>
  if s108 < (x124.len : Int) then
    nilck a0 >>= fun p125 =>
    ld cL (Addr.add p125 2) >>= fun x126 =>
    idx x126.a x126.len s1 1 >>= fun p127 =>
    ld cL p127 >>= fun x128 =>
    idx x128.a x128.len s108 25 >>= fun p129 =>
    ld (cI .i64) p129 >>= fun x130 =>
    if x130 ≠ (IntKind.wrap .i64 ((-100) - (IntKind.wrap .i64 ((IntKind.wrap .i64 (Int.tdiv s1 3)) * 3)))) then
      pure (LS.done (LS.done false))
    else
      pure (LS.next (IntKind.wrap .i64 (s108 + 1)))
  else
    pure (LS.done (LS.next (IntKind.wrap .i64 (s1 + 1))))
theorem weirlaw15_Book_stands.L2_ok (a0 : (Option Addr)) (s1 : Int) (s108 : Int) :
    SJ weirlaw15_Book_stands.cx [.code (c1 (c1 (c2 (c2 (c2 (c2 (c1 (c1 (c2 (c1 (c1 (c2 (c1 (c2 weirlaw15_Book_stands.B)))))))))))))), .inLoop (c1 (c1 (c2 (c2 (c2 (c2 (c1 (c1 (c2 (c1 (c1 (c2 (c1 (c2 weirlaw15_Book_stands.B)))))))))))))), .inBlock 6, .inBlock 1, .code (c2 (c2 (c1 (c1 (c2 (c1 (c2 weirlaw15_Book_stands.B))))))), .inLoop (c1 (c1 (c2 (c1 (c2 weirlaw15_Book_stands.B))))), .inBlock 0, .code (c2 (c2 weirlaw15_Book_stands.B))] [(0, .pointer a0), (3, .int .i64 s1), (4, .int .i64 (IntKind.wrap .i64 ((-100) - (IntKind.wrap .i64 ((IntKind.wrap .i64 (Int.tdiv s1 3)) * 3))))), (7, .int .i64 s108)] [] (weirlaw15_Book_stands.L2 a0 s1 s108) (weirlaw15_Book_stands.F2 a0 s1) := by
  unfold weirlaw15_Book_stands.L2
  refine SJ.seq ?_
  refine SJ.sr 10 ?_
  refine OJ.go 2 [(71, .pointer a0), (70, .int .i64 s108)] ?_
  refine OJ.nilck (d := 72) (y := .tmp 71) (fun p121 => ?_)
  refine OJ.go 1 [(73, .pointer (some (Addr.add p121 2)))] ?_
  refine OJ.ld (d := 74) (y := .tmp 73) (pend2 := fun x122 => []) Ty61 (fun _ => rfl) (fun x122 => ?_)
  refine OJ.go 1 [(75, .int .i64 s1)] ?_
  refine OJ.idxS (d := 76) (T := 61) (y := .tmp 74) (j := .tmp 75) (E := 50) (cap := x122.cap) (k := .i64) (fun p123 => ?_)
  refine OJ.ld (d := 77) (y := .tmp 76) (pend2 := fun x124 => []) Ty50 (fun _ => rfl) (fun x124 => ?_)
  refine OJ.go 2 [(79, .bool (decide (s108 < (x124.len : Int)))), (78, .int .i64 (x124.len : Int))] ?_
  refine OJ.nil ?_
  refine SJ.cond (t := (.tmp 79)) (b := decide (s108 < (x124.len : Int))) decide_eq_true_iff (fun hc132 => ?_) (fun hc132 => ?_)
  · refine SJ.skip ?_
    refine SJ.seq ?_
    refine SJ.block (id := 7) ?_
    refine SJ.sr 13 ?_
    refine OJ.go 1 [(82, .pointer a0)] ?_
    refine OJ.nilck (d := 83) (y := .tmp 82) (fun p125 => ?_)
    refine OJ.go 1 [(84, .pointer (some (Addr.add p125 2)))] ?_
    refine OJ.ld (d := 85) (y := .tmp 84) (pend2 := fun x126 => []) Ty61 (fun _ => rfl) (fun x126 => ?_)
    refine OJ.go 1 [(86, .int .i64 s1)] ?_
    refine OJ.idxS (d := 87) (T := 61) (y := .tmp 85) (j := .tmp 86) (E := 50) (cap := x126.cap) (k := .i64) (fun p127 => ?_)
    refine OJ.ld (d := 88) (y := .tmp 87) (pend2 := fun x128 => []) Ty50 (fun _ => rfl) (fun x128 => ?_)
    refine OJ.go 1 [(89, .int .i64 s108)] ?_
    refine OJ.idxS (d := 90) (T := 50) (y := .tmp 88) (j := .tmp 89) (E := 111) (cap := x128.cap) (k := .i64) (fun p129 => ?_)
    refine OJ.go 1 [(91, .pointer (some p129))] ?_
    refine OJ.ld (d := 92) (y := .tmp 91) (pend2 := fun x130 => []) Ty3 (fun _ => rfl) (fun x130 => ?_)
    refine OJ.go 2 [(94, .bool (x130 != (IntKind.wrap .i64 ((-100) - (IntKind.wrap .i64 ((IntKind.wrap .i64 (Int.tdiv s1 3)) * 3)))))), (93, .int .i64 (IntKind.wrap .i64 ((-100) - (IntKind.wrap .i64 ((IntKind.wrap .i64 (Int.tdiv s1 3)) * 3)))))] ?_
    refine OJ.nil ?_
    refine SJ.cond (t := (.tmp 94)) (b := (x130 != (IntKind.wrap .i64 ((-100) - (IntKind.wrap .i64 ((IntKind.wrap .i64 (Int.tdiv s1 3)) * 3)))))) bne_iff_ne (fun hc131 => ?_) (fun hc131 => ?_)
    · refine SJ.sr 1 ?_
      refine OJ.go 1 [(2, .bool false)] ?_
      refine OJ.nil ?_
      exact SJ.ret rfl (Res.run (ys := [.bool false]) (.tmp (by kernel_rfl) .nil) rfl)
    · refine SJ.skip ?_
      refine SJ.inBlock ?_
      refine SJ.rg 3 ?_
      refine OJ.go 3 [(7, .int .i64 (IntKind.wrap .i64 (s108 + 1))), (81, .int .i64 (IntKind.wrap .i64 (s108 + 1))), (80, .int .i64 s108)] ?_
      refine OJ.nil ?_
      exact SJ.at_ [0, 3, 4, 7] rfl
  · refine SJ.exit (id := 6) (by rfl) ?_
    refine SJ.inBlock ?_
    refine SJ.rg 3 ?_
    refine OJ.go 3 [(3, .int .i64 (IntKind.wrap .i64 (s1 + 1))), (16, .int .i64 (IntKind.wrap .i64 (s1 + 1))), (15, .int .i64 s1)] ?_
    refine OJ.nil ?_
    exact SJ.at_ [0, 3] rfl
noncomputable def weirlaw15_Book_stands.K1 (a0 : (Option Addr)) (s1 : Int) : M (LS Int Bool) :=
  loopM (fun s_ : Int => weirlaw15_Book_stands.L2 a0 s1 s_) 0
theorem weirlaw15_Book_stands.K1_ok (a0 : (Option Addr)) (s1 : Int) :
    SJ weirlaw15_Book_stands.cx [.code (c2 (c2 (c2 (c1 (c1 (c2 (c1 (c1 (c2 (c1 (c2 weirlaw15_Book_stands.B))))))))))), .inBlock 1, .code (c2 (c2 (c1 (c1 (c2 (c1 (c2 weirlaw15_Book_stands.B))))))), .inLoop (c1 (c1 (c2 (c1 (c2 weirlaw15_Book_stands.B))))), .inBlock 0, .code (c2 (c2 weirlaw15_Book_stands.B))] [(0, .pointer a0), (3, .int .i64 s1), (4, .int .i64 (IntKind.wrap .i64 ((-100) - (IntKind.wrap .i64 ((IntKind.wrap .i64 (Int.tdiv s1 3)) * 3)))))] [] (weirlaw15_Book_stands.K1 a0 s1) (weirlaw15_Book_stands.F1 a0) := by
  unfold weirlaw15_Book_stands.K1
  refine SJ.sr 1 ?_
  refine OJ.go 1 [(7, .int .i64 0)] ?_
  refine OJ.nil ?_
  refine SJ.block (id := 6) ?_
  exact SJ.loop (fun s_ : Int => [(0, .pointer a0), (3, .int .i64 s1), (4, .int .i64 (IntKind.wrap .i64 ((-100) - (IntKind.wrap .i64 ((IntKind.wrap .i64 (Int.tdiv s1 3)) * 3))))), (7, .int .i64 s_)]) (fun s_ : Int => []) [0, 3, 4, 7] rfl (fun _ _ => rfl) (fun s_ => weirlaw15_Book_stands.L2_ok a0 s1 s_)
noncomputable def weirlaw15_Book_stands.F3 (a0 : (Option Addr)) (s1 : Int) : (LS Int (LS Int Bool)) → Reach := loopF [.inLoop (c1 (c1 (c2 (c1 (c2 (c2 (c1 (c1 (c2 (c1 (c1 (c2 (c1 (c2 weirlaw15_Book_stands.B)))))))))))))), .inBlock 4, .code (c2 (c2 (c2 (c1 (c1 (c2 (c1 (c1 (c2 (c1 (c2 weirlaw15_Book_stands.B))))))))))), .inBlock 1, .code (c2 (c2 (c1 (c1 (c2 (c1 (c2 weirlaw15_Book_stands.B))))))), .inLoop (c1 (c1 (c2 (c1 (c2 weirlaw15_Book_stands.B))))), .inBlock 0, .code (c2 (c2 weirlaw15_Book_stands.B))] (fun s_ : Int => [(0, .pointer a0), (3, .int .i64 s1), (4, .int .i64 (IntKind.wrap .i64 ((-100) - (IntKind.wrap .i64 ((IntKind.wrap .i64 (Int.tdiv s1 3)) * 3))))), (6, .int .i64 s_)]) (fun s_ : Int => []) (weirlaw15_Book_stands.F1 a0)
noncomputable def weirlaw15_Book_stands.L3 (a0 : (Option Addr)) (s1 : Int) (s95 : Int) : M (LS Int (LS Int Bool)) :=
  nilck a0 >>= fun p133 =>
  ld cL (Addr.add p133 1) >>= fun x134 =>
  idx x134.a x134.len s1 1 >>= fun p135 =>
  ld cL p135 >>= fun x136 =>
  if s95 < (x136.len : Int) then
    nilck a0 >>= fun p137 =>
    ld cL (Addr.add p137 1) >>= fun x138 =>
    idx x138.a x138.len s1 1 >>= fun p139 =>
    ld cL p139 >>= fun x140 =>
    idx x140.a x140.len s95 28 >>= fun p141 =>
    ld (cI .i64) p141 >>= fun x142 =>
    if x142 ≠ (IntKind.wrap .i64 ((-100) - (IntKind.wrap .i64 ((IntKind.wrap .i64 (Int.tdiv s1 3)) * 3)))) then
      pure (LS.done (LS.done false))
    else
      pure (LS.next (IntKind.wrap .i64 (s95 + 1)))
  else
    (weirlaw15_Book_stands.K1 a0 s1) >>= fun b => pure (LS.done b)
theorem weirlaw15_Book_stands.L3_ok (a0 : (Option Addr)) (s1 : Int) (s95 : Int) :
    SJ weirlaw15_Book_stands.cx [.code (c1 (c1 (c2 (c1 (c2 (c2 (c1 (c1 (c2 (c1 (c1 (c2 (c1 (c2 weirlaw15_Book_stands.B)))))))))))))), .inLoop (c1 (c1 (c2 (c1 (c2 (c2 (c1 (c1 (c2 (c1 (c1 (c2 (c1 (c2 weirlaw15_Book_stands.B)))))))))))))), .inBlock 4, .code (c2 (c2 (c2 (c1 (c1 (c2 (c1 (c1 (c2 (c1 (c2 weirlaw15_Book_stands.B))))))))))), .inBlock 1, .code (c2 (c2 (c1 (c1 (c2 (c1 (c2 weirlaw15_Book_stands.B))))))), .inLoop (c1 (c1 (c2 (c1 (c2 weirlaw15_Book_stands.B))))), .inBlock 0, .code (c2 (c2 weirlaw15_Book_stands.B))] [(0, .pointer a0), (3, .int .i64 s1), (4, .int .i64 (IntKind.wrap .i64 ((-100) - (IntKind.wrap .i64 ((IntKind.wrap .i64 (Int.tdiv s1 3)) * 3))))), (6, .int .i64 s95)] [] (weirlaw15_Book_stands.L3 a0 s1 s95) (weirlaw15_Book_stands.F3 a0 s1) := by
  unfold weirlaw15_Book_stands.L3
  refine SJ.seq ?_
  refine SJ.sr 10 ?_
  refine OJ.go 2 [(46, .pointer a0), (45, .int .i64 s95)] ?_
  refine OJ.nilck (d := 47) (y := .tmp 46) (fun p133 => ?_)
  refine OJ.go 1 [(48, .pointer (some (Addr.add p133 1)))] ?_
  refine OJ.ld (d := 49) (y := .tmp 48) (pend2 := fun x134 => []) Ty60 (fun _ => rfl) (fun x134 => ?_)
  refine OJ.go 1 [(50, .int .i64 s1)] ?_
  refine OJ.idxS (d := 51) (T := 60) (y := .tmp 49) (j := .tmp 50) (E := 68) (cap := x134.cap) (k := .i64) (fun p135 => ?_)
  refine OJ.ld (d := 52) (y := .tmp 51) (pend2 := fun x136 => []) Ty68 (fun _ => rfl) (fun x136 => ?_)
  refine OJ.go 2 [(54, .bool (decide (s95 < (x136.len : Int)))), (53, .int .i64 (x136.len : Int))] ?_
  refine OJ.nil ?_
  refine SJ.cond (t := (.tmp 54)) (b := decide (s95 < (x136.len : Int))) decide_eq_true_iff (fun hc144 => ?_) (fun hc144 => ?_)
  · refine SJ.skip ?_
    refine SJ.seq ?_
    refine SJ.block (id := 5) ?_
    refine SJ.sr 13 ?_
    refine OJ.go 1 [(57, .pointer a0)] ?_
    refine OJ.nilck (d := 58) (y := .tmp 57) (fun p137 => ?_)
    refine OJ.go 1 [(59, .pointer (some (Addr.add p137 1)))] ?_
    refine OJ.ld (d := 60) (y := .tmp 59) (pend2 := fun x138 => []) Ty60 (fun _ => rfl) (fun x138 => ?_)
    refine OJ.go 1 [(61, .int .i64 s1)] ?_
    refine OJ.idxS (d := 62) (T := 60) (y := .tmp 60) (j := .tmp 61) (E := 68) (cap := x138.cap) (k := .i64) (fun p139 => ?_)
    refine OJ.ld (d := 63) (y := .tmp 62) (pend2 := fun x140 => []) Ty68 (fun _ => rfl) (fun x140 => ?_)
    refine OJ.go 1 [(64, .int .i64 s95)] ?_
    refine OJ.idxS (d := 65) (T := 68) (y := .tmp 63) (j := .tmp 64) (E := 77) (cap := x140.cap) (k := .i64) (fun p141 => ?_)
    refine OJ.go 1 [(66, .pointer (some p141))] ?_
    refine OJ.ld (d := 67) (y := .tmp 66) (pend2 := fun x142 => []) Ty3 (fun _ => rfl) (fun x142 => ?_)
    refine OJ.go 2 [(69, .bool (x142 != (IntKind.wrap .i64 ((-100) - (IntKind.wrap .i64 ((IntKind.wrap .i64 (Int.tdiv s1 3)) * 3)))))), (68, .int .i64 (IntKind.wrap .i64 ((-100) - (IntKind.wrap .i64 ((IntKind.wrap .i64 (Int.tdiv s1 3)) * 3)))))] ?_
    refine OJ.nil ?_
    refine SJ.cond (t := (.tmp 69)) (b := (x142 != (IntKind.wrap .i64 ((-100) - (IntKind.wrap .i64 ((IntKind.wrap .i64 (Int.tdiv s1 3)) * 3)))))) bne_iff_ne (fun hc143 => ?_) (fun hc143 => ?_)
    · refine SJ.sr 1 ?_
      refine OJ.go 1 [(2, .bool false)] ?_
      refine OJ.nil ?_
      exact SJ.ret rfl (Res.run (ys := [.bool false]) (.tmp (by kernel_rfl) .nil) rfl)
    · refine SJ.skip ?_
      refine SJ.inBlock ?_
      refine SJ.rg 3 ?_
      refine OJ.go 3 [(6, .int .i64 (IntKind.wrap .i64 (s95 + 1))), (56, .int .i64 (IntKind.wrap .i64 (s95 + 1))), (55, .int .i64 s95)] ?_
      refine OJ.nil ?_
      exact SJ.at_ [0, 3, 4, 6] rfl
  · refine SJ.exit (id := 4) (by rfl) ?_
    refine SJ.less [0, 3, 4] (m' := [(0, .pointer a0), (3, .int .i64 s1), (4, .int .i64 (IntKind.wrap .i64 ((-100) - (IntKind.wrap .i64 ((IntKind.wrap .i64 (Int.tdiv s1 3)) * 3)))))]) ?_
    refine SJ.done ?_
    exact weirlaw15_Book_stands.K1_ok a0 s1
noncomputable def weirlaw15_Book_stands.K2 (a0 : (Option Addr)) (s1 : Int) : M (LS Int Bool) :=
  loopM (fun s_ : Int => weirlaw15_Book_stands.L3 a0 s1 s_) 0
theorem weirlaw15_Book_stands.K2_ok (a0 : (Option Addr)) (s1 : Int) :
    SJ weirlaw15_Book_stands.cx [.code (c2 (c2 (c1 (c1 (c2 (c1 (c1 (c2 (c1 (c2 weirlaw15_Book_stands.B)))))))))), .inBlock 1, .code (c2 (c2 (c1 (c1 (c2 (c1 (c2 weirlaw15_Book_stands.B))))))), .inLoop (c1 (c1 (c2 (c1 (c2 weirlaw15_Book_stands.B))))), .inBlock 0, .code (c2 (c2 weirlaw15_Book_stands.B))] [(0, .pointer a0), (3, .int .i64 s1), (4, .int .i64 (IntKind.wrap .i64 ((-100) - (IntKind.wrap .i64 ((IntKind.wrap .i64 (Int.tdiv s1 3)) * 3)))))] [] (weirlaw15_Book_stands.K2 a0 s1) (weirlaw15_Book_stands.F1 a0) := by
  unfold weirlaw15_Book_stands.K2
  refine SJ.seq ?_
  refine SJ.sr 1 ?_
  refine OJ.go 1 [(6, .int .i64 0)] ?_
  refine OJ.nil ?_
  refine SJ.block (id := 4) ?_
  exact SJ.loop (fun s_ : Int => [(0, .pointer a0), (3, .int .i64 s1), (4, .int .i64 (IntKind.wrap .i64 ((-100) - (IntKind.wrap .i64 ((IntKind.wrap .i64 (Int.tdiv s1 3)) * 3))))), (6, .int .i64 s_)]) (fun s_ : Int => []) [0, 3, 4, 6] rfl (fun _ _ => rfl) (fun s_ => weirlaw15_Book_stands.L3_ok a0 s1 s_)
noncomputable def weirlaw15_Book_stands.F4 (a0 : (Option Addr)) (s1 : Int) : (LS Int (LS Int Bool)) → Reach := loopF [.inLoop (c1 (c1 (c2 (c1 (c2 (c1 (c1 (c2 (c1 (c1 (c2 (c1 (c2 weirlaw15_Book_stands.B))))))))))))), .inBlock 2, .code (c2 (c2 (c1 (c1 (c2 (c1 (c1 (c2 (c1 (c2 weirlaw15_Book_stands.B)))))))))), .inBlock 1, .code (c2 (c2 (c1 (c1 (c2 (c1 (c2 weirlaw15_Book_stands.B))))))), .inLoop (c1 (c1 (c2 (c1 (c2 weirlaw15_Book_stands.B))))), .inBlock 0, .code (c2 (c2 weirlaw15_Book_stands.B))] (fun s_ : Int => [(0, .pointer a0), (3, .int .i64 s1), (4, .int .i64 (IntKind.wrap .i64 ((-100) - (IntKind.wrap .i64 ((IntKind.wrap .i64 (Int.tdiv s1 3)) * 3))))), (5, .int .i64 s_)]) (fun s_ : Int => []) (weirlaw15_Book_stands.F1 a0)
noncomputable def weirlaw15_Book_stands.L4 (a0 : (Option Addr)) (s1 : Int) (s82 : Int) : M (LS Int (LS Int Bool)) :=
  nilck a0 >>= fun p145 =>
  ld cL p145 >>= fun x146 =>
  idx x146.a x146.len s1 1 >>= fun p147 =>
  ld cL p147 >>= fun x148 =>
  if s82 < (x148.len : Int) then
    nilck a0 >>= fun p149 =>
    ld cL p149 >>= fun x150 =>
    idx x150.a x150.len s1 1 >>= fun p151 =>
    ld cL p151 >>= fun x152 =>
    idx x152.a x152.len s82 1 >>= fun p153 =>
    ld (cI .i64) p153 >>= fun x154 =>
    if x154 ≠ (IntKind.wrap .i64 ((-100) - (IntKind.wrap .i64 ((IntKind.wrap .i64 (Int.tdiv s1 3)) * 3)))) then
      pure (LS.done (LS.done false))
    else
      pure (LS.next (IntKind.wrap .i64 (s82 + 1)))
  else
    (weirlaw15_Book_stands.K2 a0 s1) >>= fun b => pure (LS.done b)
theorem weirlaw15_Book_stands.L4_ok (a0 : (Option Addr)) (s1 : Int) (s82 : Int) :
    SJ weirlaw15_Book_stands.cx [.code (c1 (c1 (c2 (c1 (c2 (c1 (c1 (c2 (c1 (c1 (c2 (c1 (c2 weirlaw15_Book_stands.B))))))))))))), .inLoop (c1 (c1 (c2 (c1 (c2 (c1 (c1 (c2 (c1 (c1 (c2 (c1 (c2 weirlaw15_Book_stands.B))))))))))))), .inBlock 2, .code (c2 (c2 (c1 (c1 (c2 (c1 (c1 (c2 (c1 (c2 weirlaw15_Book_stands.B)))))))))), .inBlock 1, .code (c2 (c2 (c1 (c1 (c2 (c1 (c2 weirlaw15_Book_stands.B))))))), .inLoop (c1 (c1 (c2 (c1 (c2 weirlaw15_Book_stands.B))))), .inBlock 0, .code (c2 (c2 weirlaw15_Book_stands.B))] [(0, .pointer a0), (3, .int .i64 s1), (4, .int .i64 (IntKind.wrap .i64 ((-100) - (IntKind.wrap .i64 ((IntKind.wrap .i64 (Int.tdiv s1 3)) * 3))))), (5, .int .i64 s82)] [] (weirlaw15_Book_stands.L4 a0 s1 s82) (weirlaw15_Book_stands.F4 a0 s1) := by
  unfold weirlaw15_Book_stands.L4
  refine SJ.seq ?_
  refine SJ.sr 10 ?_
  refine OJ.go 2 [(22, .pointer a0), (21, .int .i64 s82)] ?_
  refine OJ.nilck (d := 23) (y := .tmp 22) (fun p145 => ?_)
  refine OJ.go 1 [(24, .pointer (some p145))] ?_
  refine OJ.ld (d := 25) (y := .tmp 24) (pend2 := fun x146 => []) Ty56 (fun _ => rfl) (fun x146 => ?_)
  refine OJ.go 1 [(26, .int .i64 s1)] ?_
  refine OJ.idxS (d := 27) (T := 56) (y := .tmp 25) (j := .tmp 26) (E := 43) (cap := x146.cap) (k := .i64) (fun p147 => ?_)
  refine OJ.ld (d := 28) (y := .tmp 27) (pend2 := fun x148 => []) Ty43 (fun _ => rfl) (fun x148 => ?_)
  refine OJ.go 2 [(30, .bool (decide (s82 < (x148.len : Int)))), (29, .int .i64 (x148.len : Int))] ?_
  refine OJ.nil ?_
  refine SJ.cond (t := (.tmp 30)) (b := decide (s82 < (x148.len : Int))) decide_eq_true_iff (fun hc156 => ?_) (fun hc156 => ?_)
  · refine SJ.skip ?_
    refine SJ.seq ?_
    refine SJ.block (id := 3) ?_
    refine SJ.sr 12 ?_
    refine OJ.go 1 [(33, .pointer a0)] ?_
    refine OJ.nilck (d := 34) (y := .tmp 33) (fun p149 => ?_)
    refine OJ.go 1 [(35, .pointer (some p149))] ?_
    refine OJ.ld (d := 36) (y := .tmp 35) (pend2 := fun x150 => []) Ty56 (fun _ => rfl) (fun x150 => ?_)
    refine OJ.go 1 [(37, .int .i64 s1)] ?_
    refine OJ.idxS (d := 38) (T := 56) (y := .tmp 36) (j := .tmp 37) (E := 43) (cap := x150.cap) (k := .i64) (fun p151 => ?_)
    refine OJ.ld (d := 39) (y := .tmp 38) (pend2 := fun x152 => []) Ty43 (fun _ => rfl) (fun x152 => ?_)
    refine OJ.go 1 [(40, .int .i64 s82)] ?_
    refine OJ.idxS (d := 41) (T := 43) (y := .tmp 39) (j := .tmp 40) (E := 3) (cap := x152.cap) (k := .i64) (fun p153 => ?_)
    refine OJ.ld (d := 42) (y := .tmp 41) (pend2 := fun x154 => []) Ty3 (fun _ => rfl) (fun x154 => ?_)
    refine OJ.go 2 [(44, .bool (x154 != (IntKind.wrap .i64 ((-100) - (IntKind.wrap .i64 ((IntKind.wrap .i64 (Int.tdiv s1 3)) * 3)))))), (43, .int .i64 (IntKind.wrap .i64 ((-100) - (IntKind.wrap .i64 ((IntKind.wrap .i64 (Int.tdiv s1 3)) * 3)))))] ?_
    refine OJ.nil ?_
    refine SJ.cond (t := (.tmp 44)) (b := (x154 != (IntKind.wrap .i64 ((-100) - (IntKind.wrap .i64 ((IntKind.wrap .i64 (Int.tdiv s1 3)) * 3)))))) bne_iff_ne (fun hc155 => ?_) (fun hc155 => ?_)
    · refine SJ.sr 1 ?_
      refine OJ.go 1 [(2, .bool false)] ?_
      refine OJ.nil ?_
      exact SJ.ret rfl (Res.run (ys := [.bool false]) (.tmp (by kernel_rfl) .nil) rfl)
    · refine SJ.skip ?_
      refine SJ.inBlock ?_
      refine SJ.rg 3 ?_
      refine OJ.go 3 [(5, .int .i64 (IntKind.wrap .i64 (s82 + 1))), (32, .int .i64 (IntKind.wrap .i64 (s82 + 1))), (31, .int .i64 s82)] ?_
      refine OJ.nil ?_
      exact SJ.at_ [0, 3, 4, 5] rfl
  · refine SJ.exit (id := 2) (by rfl) ?_
    refine SJ.less [0, 3, 4] (m' := [(0, .pointer a0), (3, .int .i64 s1), (4, .int .i64 (IntKind.wrap .i64 ((-100) - (IntKind.wrap .i64 ((IntKind.wrap .i64 (Int.tdiv s1 3)) * 3)))))]) ?_
    refine SJ.done ?_
    exact weirlaw15_Book_stands.K2_ok a0 s1
noncomputable def weirlaw15_Book_stands.L1 (a0 : (Option Addr)) (s1 : Int) : M (LS Int Bool) :=
  nilck a0 >>= fun p80 =>
  ld cL p80 >>= fun x81 =>
  if s1 < (x81.len : Int) then
    loopM (fun s_ : Int => weirlaw15_Book_stands.L4 a0 s1 s_) 0
  else
    pure (LS.done true)
theorem weirlaw15_Book_stands.L1_ok (a0 : (Option Addr)) (s1 : Int) :
    SJ weirlaw15_Book_stands.cx [.code (c1 (c1 (c2 (c1 (c2 weirlaw15_Book_stands.B))))), .inLoop (c1 (c1 (c2 (c1 (c2 weirlaw15_Book_stands.B))))), .inBlock 0, .code (c2 (c2 weirlaw15_Book_stands.B))] [(0, .pointer a0), (3, .int .i64 s1)] [] (weirlaw15_Book_stands.L1 a0 s1) (weirlaw15_Book_stands.F1 a0) := by
  unfold weirlaw15_Book_stands.L1
  refine SJ.seq ?_
  refine SJ.sr 7 ?_
  refine OJ.go 2 [(9, .pointer a0), (8, .int .i64 s1)] ?_
  refine OJ.nilck (d := 10) (y := .tmp 9) (fun p80 => ?_)
  refine OJ.go 1 [(11, .pointer (some p80))] ?_
  refine OJ.ld (d := 12) (y := .tmp 11) (pend2 := fun x81 => []) Ty56 (fun _ => rfl) (fun x81 => ?_)
  refine OJ.go 2 [(14, .bool (decide (s1 < (x81.len : Int)))), (13, .int .i64 (x81.len : Int))] ?_
  refine OJ.nil ?_
  refine SJ.cond (t := (.tmp 14)) (b := decide (s1 < (x81.len : Int))) decide_eq_true_iff (fun hc157 => ?_) (fun hc157 => ?_)
  · refine SJ.skip ?_
    refine SJ.seq ?_
    refine SJ.block (id := 1) ?_
    refine SJ.sr 5 ?_
    refine OJ.go 5 [(4, .int .i64 (IntKind.wrap .i64 ((-100) - (IntKind.wrap .i64 ((IntKind.wrap .i64 (Int.tdiv s1 3)) * 3))))), (20, .int .i64 (IntKind.wrap .i64 ((-100) - (IntKind.wrap .i64 ((IntKind.wrap .i64 (Int.tdiv s1 3)) * 3))))), (19, .int .i64 (IntKind.wrap .i64 ((IntKind.wrap .i64 (Int.tdiv s1 3)) * 3))), (18, .int .i64 (IntKind.wrap .i64 (Int.tdiv s1 3))), (17, .int .i64 s1)] ?_
    refine OJ.nil ?_
    refine SJ.seq ?_
    refine SJ.sr 1 ?_
    refine OJ.go 1 [(5, .int .i64 0)] ?_
    refine OJ.nil ?_
    refine SJ.block (id := 2) ?_
    exact SJ.loop (fun s_ : Int => [(0, .pointer a0), (3, .int .i64 s1), (4, .int .i64 (IntKind.wrap .i64 ((-100) - (IntKind.wrap .i64 ((IntKind.wrap .i64 (Int.tdiv s1 3)) * 3))))), (5, .int .i64 s_)]) (fun s_ : Int => []) [0, 3, 4, 5] rfl (fun _ _ => rfl) (fun s_ => weirlaw15_Book_stands.L4_ok a0 s1 s_)
  · refine SJ.exit (id := 0) (by rfl) ?_
    refine SJ.sr 1 ?_
    refine OJ.go 1 [(2, .bool true)] ?_
    refine OJ.nil ?_
    exact SJ.ret rfl (Res.run (ys := [.bool true]) (.tmp (by kernel_rfl) .nil) rfl)
noncomputable def weirlaw15_Book_stands (a0 : (Option Addr)) : M Bool :=
  loopM (fun s_ : Int => weirlaw15_Book_stands.L1 a0 s_) 0
theorem weirlaw15_Book_stands_ok (a0 : (Option Addr)) : Ref Try.prog 39 [.pointer a0] (weirlaw15_Book_stands a0) weirlaw15_Book_stands.out := by
  refine Ref.of (cd := weirlaw15_Book_stands.B) Try.func39 ?_
  show SJ weirlaw15_Book_stands.cx [.code weirlaw15_Book_stands.B] [(0, .pointer a0)] [] (weirlaw15_Book_stands a0) weirlaw15_Book_stands.F0
  unfold weirlaw15_Book_stands
  refine SJ.sr 1 ?_
  refine OJ.go 1 [(2, .bool false)] ?_
  refine OJ.nil ?_
  refine SJ.seq ?_
  refine SJ.sr 1 ?_
  refine OJ.go 1 [(3, .int .i64 0)] ?_
  refine OJ.nil ?_
  refine SJ.block (id := 0) ?_
  exact SJ.loop (fun s_ : Int => [(0, .pointer a0), (3, .int .i64 s_)]) (fun s_ : Int => []) [0, 3] rfl (fun _ _ => rfl) (fun s_ => weirlaw15_Book_stands.L1_ok a0 s_)

/-! ### (*weir/neigh.Cache).Waiting: function 35 -/
noncomputable def neigh_Cache_Waiting.B : Code := (Try.f35.body).getD .skip
noncomputable def neigh_Cache_Waiting.cx : Fx := ⟨Try.prog, 35, Try.f35⟩
noncomputable def neigh_Cache_Waiting.out (r_ : Int) : Value := .int .i64 r_
noncomputable def neigh_Cache_Waiting.F0 (r_ : Int) : Reach := .ret (neigh_Cache_Waiting.out r_)
noncomputable def neigh_Cache_Waiting.F1 (b3 : Nat) : (LS Int Int) → Reach := loopF [.inLoop (c1 (c1 (c2 (c1 (c2 (c2 neigh_Cache_Waiting.B)))))), .inBlock 0, .code (c2 (c2 (c2 neigh_Cache_Waiting.B)))] (fun s_ : Int => [(3, .int .i64 s_), (10, .pointer (some (pt b3 0)))]) (fun s_ : Int => []) neigh_Cache_Waiting.F0
noncomputable def neigh_Cache_Waiting.L1 (b3 : Nat) (s4 : Int) : M (LS Int Int) :=
  mnext b3 >>= fun r10 =>
  if r10.1 = true then
    mentry c_neigh_key cP b3 >>= fun r11 =>
    nilck r11.2 >>= fun p12 =>
    ld cL (Addr.add p12 27) >>= fun x13 =>
    pure (LS.next (IntKind.wrap .i64 (s4 + (x13.len : Int))))
  else
    pure (LS.done s4)
theorem neigh_Cache_Waiting.L1_ok (b3 : Nat) (s4 : Int) :
    SJ neigh_Cache_Waiting.cx [.code (c1 (c1 (c2 (c1 (c2 (c2 neigh_Cache_Waiting.B)))))), .inLoop (c1 (c1 (c2 (c1 (c2 (c2 neigh_Cache_Waiting.B)))))), .inBlock 0, .code (c2 (c2 (c2 neigh_Cache_Waiting.B)))] [(3, .int .i64 s4), (10, .pointer (some (pt b3 0)))] [] (neigh_Cache_Waiting.L1 b3 s4) (neigh_Cache_Waiting.F1 b3) := by
  unfold neigh_Cache_Waiting.L1
  refine SJ.sr 2 ?_
  refine OJ.mnext (d := 11) (x := .tmp 10) (owed := []) (fun r10 => ?_)
  refine OW.nil ?_
  refine OJ.go 1 [(12, .bool r10.1)] ?_
  refine OJ.nil ?_
  refine SJ.seq ?_
  refine SJ.cond (t := (.tmp 12)) (b := r10.1) Iff.rfl (fun hc14 => ?_) (fun hc14 => ?_)
  · refine SJ.skip ?_
    refine SJ.block (id := 1) ?_
    refine SJ.sr 3 ?_
    refine OJ.mentry (d := 13) (x := .tmp 10) (owed := []) (fun r11 => ?_)
    refine OW.nil ?_
    refine OJ.go 2 [(5, .pointer r11.2), (14, .pointer r11.2)] ?_
    refine OJ.nil ?_
    refine SJ.rg 8 ?_
    refine OJ.go 2 [(16, .pointer r11.2), (15, .int .i64 s4)] ?_
    refine OJ.nilck (d := 17) (y := .tmp 16) (fun p12 => ?_)
    refine OJ.go 1 [(18, .pointer (some (Addr.add p12 27)))] ?_
    refine OJ.ld (d := 19) (y := .tmp 18) (pend2 := fun x13 => []) Ty43 (fun _ => rfl) (fun x13 => ?_)
    refine OJ.go 3 [(3, .int .i64 (IntKind.wrap .i64 (s4 + (x13.len : Int)))), (21, .int .i64 (IntKind.wrap .i64 (s4 + (x13.len : Int)))), (20, .int .i64 (x13.len : Int))] ?_
    refine OJ.nil ?_
    refine SJ.inBlock ?_
    exact SJ.at_ [3, 10] rfl
  · refine SJ.exit (id := 0) (by rfl) ?_
    refine SJ.sr 2 ?_
    refine OJ.go 2 [(2, .int .i64 s4), (22, .int .i64 s4)] ?_
    refine OJ.nil ?_
    exact SJ.ret rfl (Res.run (ys := [.int .i64 s4]) (.tmp (by kernel_rfl) .nil) rfl)
noncomputable def neigh_Cache_Waiting (a0 : (Option Addr)) : M Int :=
  nilck a0 >>= fun p1 =>
  ld cM (Addr.add p1 5) >>= fun x2 =>
  mrange x2 >>= fun b3 =>
  loopM (fun s_ : Int => neigh_Cache_Waiting.L1 b3 s_) 0
theorem neigh_Cache_Waiting_ok (a0 : (Option Addr)) : Ref Try.prog 35 [.pointer a0] (neigh_Cache_Waiting a0) neigh_Cache_Waiting.out := by
  refine Ref.of (cd := neigh_Cache_Waiting.B) Try.func35 ?_
  show SJ neigh_Cache_Waiting.cx [.code neigh_Cache_Waiting.B] [(0, .pointer a0)] [] (neigh_Cache_Waiting a0) neigh_Cache_Waiting.F0
  unfold neigh_Cache_Waiting
  refine SJ.sr 1 ?_
  refine OJ.go 1 [(2, .int .i64 0)] ?_
  refine OJ.nil ?_
  refine SJ.sr 1 ?_
  refine OJ.go 1 [(3, .int .i64 0)] ?_
  refine OJ.nil ?_
  refine SJ.seq ?_
  refine SJ.sr 5 ?_
  refine OJ.go 1 [(6, .pointer a0)] ?_
  refine OJ.nilck (d := 7) (y := .tmp 6) (fun p1 => ?_)
  refine OJ.go 1 [(8, .pointer (some (Addr.add p1 5)))] ?_
  refine OJ.ld (d := 9) (y := .tmp 8) (pend2 := fun x2 => []) Ty101 (fun _ => rfl) (fun x2 => ?_)
  refine OJ.mrange (d := 10) (T := 101) (kT := 99) (vT := 100) (x := .tmp 9) (owed := []) (fun b3 => ?_)
  refine OW.nil ?_
  refine OJ.nil ?_
  refine SJ.block (id := 0) ?_
  exact SJ.loop (fun s_ : Int => [(3, .int .i64 s_), (10, .pointer (some (pt b3 0)))]) (fun s_ : Int => []) [3, 10] rfl (fun _ _ => rfl) (fun s_ => neigh_Cache_Waiting.L1_ok b3 s_)

/-! ### weir/weirlaw15.NeighOwn: function 7 -/
noncomputable def weirlaw15_NeighOwn.B : Code := (Try.f7.body).getD .skip
noncomputable def weirlaw15_NeighOwn.cx : Fx := ⟨Try.prog, 7, Try.f7⟩
noncomputable def weirlaw15_NeighOwn.out (r_ : Bool) : Value := .bool r_
noncomputable def weirlaw15_NeighOwn.F0 (r_ : Bool) : Reach := .ret (weirlaw15_NeighOwn.out r_)
noncomputable def weirlaw15_NeighOwn.K1 (r2 : ((Option Addr) × api_NeighConfig)) (r4 : ((Option Addr) × api_NeighConfig)) : M Bool :=
  neigh_Cache_All r2.1 >>= fun r100 =>
  neigh_Cache_All r4.1 >>= fun r101 =>
  weirlaw15_sameAll r100 r101 >>= fun r102 =>
  (if r102 = true then
      neigh_Cache_Waiting r2.1 >>= fun r103 =>
      neigh_Cache_Waiting r4.1 >>= fun r104 =>
      pure (r103 == r104)
    else
      pure false) >>= fun y105 =>
  pure y105
theorem weirlaw15_NeighOwn.K1_ok (r2 : ((Option Addr) × api_NeighConfig)) (r4 : ((Option Addr) × api_NeighConfig)) :
    SJ weirlaw15_NeighOwn.cx [.code (c2 (c2 (c2 (c2 (c2 (c2 weirlaw15_NeighOwn.B))))))] [(5, .pointer r2.1), (7, .pointer r4.1)] [] (weirlaw15_NeighOwn.K1 r2 r4) weirlaw15_NeighOwn.F0 := by
  unfold weirlaw15_NeighOwn.K1
  refine SJ.sr 13 ?_
  refine OJ.go 1 [(168, .pointer r2.1)] ?_
  refine OJ.call (d := 169) (g := 27) (ats := #[25]) (args := [.tmp 168]) (owed := []) F27 (neigh_Cache_All_ok r2.1) (fun r100 => ?_)
  refine OW.nil ?_
  refine OJ.go 1 [(170, .pointer r4.1)] ?_
  refine OJ.call (d := 171) (g := 27) (ats := #[25]) (args := [.tmp 170]) (owed := []) F27 (neigh_Cache_All_ok r4.1) (fun r101 => ?_)
  refine OW.nil ?_
  refine OJ.call (d := 172) (g := 28) (ats := #[68, 68]) (args := [.tmp 169, .tmp 171]) (owed := []) F28 (weirlaw15_sameAll_ok r100 r101) (fun r102 => ?_)
  refine OW.nil ?_
  refine OJ.go 1 [(173, .bool r102)] ?_
  refine OJ.join (b := r102) [6, 7, 8, 9, 10, 11] [12] [179] (fun y105 => [(179, .bool y105)]) [] [] (t := 173) Iff.rfl (fun hp_ => ?_) (fun hp_ => ?_) (fun _ _ _ _ _ _ h_ => h_) (fun y105 => ?_)
  · refine OJ.go 1 [(174, .pointer r2.1)] ?_
    refine OJ.call (d := 175) (g := 35) (ats := #[25]) (args := [.tmp 174]) (owed := []) F35 (neigh_Cache_Waiting_ok r2.1) (fun r103 => ?_)
    refine OW.nil ?_
    refine OJ.go 1 [(176, .pointer r4.1)] ?_
    refine OJ.call (d := 177) (g := 35) (ats := #[25]) (args := [.tmp 176]) (owed := []) F35 (neigh_Cache_Waiting_ok r4.1) (fun r104 => ?_)
    refine OW.nil ?_
    refine OJ.go 2 [(179, .bool (r103 == r104)), (178, .bool (r103 == r104))] ?_
    exact OJ.nil ⟨(Cov.mem Cov.nil), rfl, _, rfl, by kernel_rfl⟩
  · refine OJ.go 6 [(179, .bool false), (178, undef), (177, undef), (176, undef), (175, undef), (174, undef)] ?_
    exact OJ.nil ⟨(Cov.mem Cov.nil), rfl, _, rfl, by kernel_rfl⟩
  · refine OJ.go 1 [(4, .bool y105)] ?_
    refine OJ.nil ?_
    exact SJ.ret rfl (Res.run (ys := [.bool y105]) (.tmp (by kernel_rfl) .nil) rfl)
noncomputable def weirlaw15_NeighOwn.F1 (a1 : Sl) (r2 : ((Option Addr) × api_NeighConfig)) (r4 : ((Option Addr) × api_NeighConfig)) (b11 : Nat) : (LS Int Bool) → Reach := loopF [.inLoop (c1 (c1 (c2 (c1 (c2 (c2 (c2 (c2 (c2 weirlaw15_NeighOwn.B))))))))), .inBlock 0, .code (c2 (c2 (c2 (c2 (c2 (c2 weirlaw15_NeighOwn.B))))))] (fun s_ : Int => [(1, Sl.v a1), (5, .pointer r2.1), (7, .pointer r4.1), (9, .pointer (some (pt b11 0))), (10, .int .i64 s_)]) (fun s_ : Int => []) weirlaw15_NeighOwn.F0
noncomputable def weirlaw15_NeighOwn.K2 (r2 : ((Option Addr) × api_NeighConfig)) (r4 : ((Option Addr) × api_NeighConfig)) (b11 : Nat) (s12 : Int) (j143 : Sl) (j144 : Sl) (j145 : Sl) (j146 : Sl) : M (LS Int Bool) :=
  neigh_Cache_All r2.1 >>= fun r147 =>
  weirlaw15_sameInts j143 j144 >>= fun r148 =>
  (if ¬ (r148 = true) then
      pure true
    else
      weirlaw15_sameAsks j145 j146 >>= fun r149 =>
      pure (!r149)) >>= fun y150 =>
  (if y150 = true then
      pure true
    else
      neigh_Cache_All r4.1 >>= fun r151 =>
      weirlaw15_sameAll r147 r151 >>= fun r152 =>
      pure (!r152)) >>= fun y153 =>
  if y153 = true then
    pure (LS.done false)
  else
    weirlaw15_Book_keep (some (pt b11 0)) j143 r147 j145 >>= fun r154 =>
    weirlaw15_Book_stands (some (pt b11 0)) >>= fun r155 =>
    if ¬ (r155 = true) then
      pure (LS.done false)
    else
      pure (LS.next (IntKind.wrap .i64 (s12 + 1)))
theorem weirlaw15_NeighOwn.K2_ok (a1 : Sl) (r2 : ((Option Addr) × api_NeighConfig)) (r4 : ((Option Addr) × api_NeighConfig)) (b11 : Nat) (s12 : Int) (j143 : Sl) (j144 : Sl) (j145 : Sl) (j146 : Sl) :
    SJ weirlaw15_NeighOwn.cx [.inBlock 2, .code (c2 (c2 (c2 (c2 (c1 (c1 (c2 (c1 (c1 (c2 (c1 (c2 (c2 (c2 (c2 (c2 weirlaw15_NeighOwn.B)))))))))))))))), .inBlock 1, .code (c2 (c2 (c1 (c1 (c2 (c1 (c2 (c2 (c2 (c2 (c2 weirlaw15_NeighOwn.B))))))))))), .inLoop (c1 (c1 (c2 (c1 (c2 (c2 (c2 (c2 (c2 weirlaw15_NeighOwn.B))))))))), .inBlock 0, .code (c2 (c2 (c2 (c2 (c2 (c2 weirlaw15_NeighOwn.B))))))] [(1, Sl.v a1), (5, .pointer r2.1), (7, .pointer r4.1), (9, .pointer (some (pt b11 0))), (10, .int .i64 s12), (12, Sl.v j143), (13, Sl.v j144), (14, Sl.v j145), (15, Sl.v j146)] [] (weirlaw15_NeighOwn.K2 r2 r4 b11 s12 j143 j144 j145 j146) (weirlaw15_NeighOwn.F1 a1 r2 r4 b11) := by
  unfold weirlaw15_NeighOwn.K2
  refine SJ.inBlock ?_
  refine SJ.sr 3 ?_
  refine OJ.go 1 [(141, .pointer r2.1)] ?_
  refine OJ.call (d := 142) (g := 27) (ats := #[25]) (args := [.tmp 141]) (owed := []) F27 (neigh_Cache_All_ok r2.1) (fun r147 => ?_)
  refine OW.nil ?_
  refine OJ.go 1 [(22, Sl.v r147)] ?_
  refine OJ.nil ?_
  refine SJ.seq ?_
  refine SJ.sr 17 ?_
  refine OJ.go 2 [(144, Sl.v j144), (143, Sl.v j143)] ?_
  refine OJ.call (d := 145) (g := 23) (ats := #[43, 43]) (args := [.tmp 143, .tmp 144]) (owed := []) F23 (weirlaw15_sameInts_ok j143 j144) (fun r148 => ?_)
  refine OW.nil ?_
  refine OJ.go 2 [(147, .bool (!r148)), (146, .bool (!r148))] ?_
  refine OJ.join (b := (!r148)) [5, 6, 7, 8, 9] [10, 11, 12, 13, 14, 15, 16] [1, 5, 7, 9, 10, 12, 14, 22, 152] (fun y150 => [(1, Sl.v a1), (5, .pointer r2.1), (7, .pointer r4.1), (9, .pointer (some (pt b11 0))), (10, .int .i64 s12), (12, Sl.v j143), (14, Sl.v j145), (22, Sl.v r147), (152, .bool y150)]) [] [] (t := 147) (bnot_iff Iff.rfl) (fun hp_ => ?_) (fun hp_ => ?_) (fun _ _ _ _ _ _ h_ => h_) (fun y150 => ?_)
  · refine OJ.go 5 [(152, .bool true), (151, undef), (150, undef), (149, undef), (148, undef)] ?_
    exact OJ.nil ⟨(Cov.mem Cov.nil), rfl, _, rfl, by kernel_rfl⟩
  · refine OJ.go 2 [(149, Sl.v j146), (148, Sl.v j145)] ?_
    refine OJ.call (d := 150) (g := 25) (ats := #[50, 50]) (args := [.tmp 148, .tmp 149]) (owed := []) F25 (weirlaw15_sameAsks_ok j145 j146) (fun r149 => ?_)
    refine OW.nil ?_
    refine OJ.go 2 [(152, .bool (!r149)), (151, .bool (!r149))] ?_
    exact OJ.nil ⟨(Cov.mem Cov.nil), rfl, _, rfl, by kernel_rfl⟩
  · refine OJ.go 1 [(153, .bool y150)] ?_
    refine OJ.join (b := y150) [11, 12, 13, 14, 15, 16] [] [1, 5, 7, 9, 10, 12, 14, 22, 159] (fun y153 => [(1, Sl.v a1), (5, .pointer r2.1), (7, .pointer r4.1), (9, .pointer (some (pt b11 0))), (10, .int .i64 s12), (12, Sl.v j143), (14, Sl.v j145), (22, Sl.v r147), (159, .bool y153)]) [] [] (t := 153) Iff.rfl (fun hp_ => ?_) (fun hp_ => ?_) (fun _ _ _ _ _ _ h_ => h_) (fun y153 => ?_)
    · refine OJ.go 6 [(159, .bool true), (158, undef), (157, undef), (156, undef), (155, undef), (154, undef)] ?_
      exact OJ.nil ⟨(Cov.mem Cov.nil), rfl, _, rfl, by kernel_rfl⟩
    · refine OJ.go 2 [(155, .pointer r4.1), (154, Sl.v r147)] ?_
      refine OJ.call (d := 156) (g := 27) (ats := #[25]) (args := [.tmp 155]) (owed := []) F27 (neigh_Cache_All_ok r4.1) (fun r151 => ?_)
      refine OW.nil ?_
      refine OJ.call (d := 157) (g := 28) (ats := #[68, 68]) (args := [.tmp 154, .tmp 156]) (owed := []) F28 (weirlaw15_sameAll_ok r147 r151) (fun r152 => ?_)
      refine OW.nil ?_
      refine OJ.go 2 [(159, .bool (!r152)), (158, .bool (!r152))] ?_
      exact OJ.nil ⟨(Cov.mem Cov.nil), rfl, _, rfl, by kernel_rfl⟩
    · refine OJ.nil ?_
      refine SJ.cond (t := (.tmp 159)) (b := y153) Iff.rfl (fun hc157 => ?_) (fun hc157 => ?_)
      · refine SJ.sr 1 ?_
        refine OJ.go 1 [(4, .bool false)] ?_
        refine OJ.nil ?_
        exact SJ.ret rfl (Res.run (ys := [.bool false]) (.tmp (by kernel_rfl) .nil) rfl)
      · refine SJ.skip ?_
        refine SJ.sr 5 ?_
        refine OJ.go 4 [(163, Sl.v j145), (162, Sl.v r147), (161, Sl.v j143), (160, .pointer (some (pt b11 0)))] ?_
        refine OJ.call (d := 164) (g := 38) (ats := #[79, 43, 68, 50]) (args := [.tmp 160, .tmp 161, .tmp 162, .tmp 163]) (owed := []) F38 (weirlaw15_Book_keep_ok (some (pt b11 0)) j143 r147 j145) (fun r154 => ?_)
        refine OW.nil ?_
        refine OJ.nil ?_
        refine SJ.sr 3 ?_
        refine OJ.go 1 [(165, .pointer (some (pt b11 0)))] ?_
        refine OJ.call (d := 166) (g := 39) (ats := #[79]) (args := [.tmp 165]) (owed := []) F39 (weirlaw15_Book_stands_ok (some (pt b11 0))) (fun r155 => ?_)
        refine OW.nil ?_
        refine OJ.go 1 [(167, .bool (!r155))] ?_
        refine OJ.nil ?_
        refine SJ.cond (t := (.tmp 167)) (b := (!r155)) (bnot_iff Iff.rfl) (fun hc156 => ?_) (fun hc156 => ?_)
        · refine SJ.sr 1 ?_
          refine OJ.go 1 [(4, .bool false)] ?_
          refine OJ.nil ?_
          exact SJ.ret rfl (Res.run (ys := [.bool false]) (.tmp (by kernel_rfl) .nil) rfl)
        · refine SJ.skip ?_
          refine SJ.inBlock ?_
          refine SJ.rg 3 ?_
          refine OJ.go 3 [(10, .int .i64 (IntKind.wrap .i64 (s12 + 1))), (60, .int .i64 (IntKind.wrap .i64 (s12 + 1))), (59, .int .i64 s12)] ?_
          refine OJ.nil ?_
          exact SJ.at_ [1, 5, 7, 9, 10] rfl
noncomputable def weirlaw15_NeighOwn.K3 (r2 : ((Option Addr) × api_NeighConfig)) (r4 : ((Option Addr) × api_NeighConfig)) (b11 : Nat) (s12 : Int) (j175 : Sl) (j176 : Sl) (j177 : Sl) (j178 : Sl) : M (LS Int Bool) :=
  weirlaw15_NeighOwn.K2 r2 r4 b11 s12 j175 j178 j176 j177
theorem weirlaw15_NeighOwn.K3_ok (a1 : Sl) (r2 : ((Option Addr) × api_NeighConfig)) (r4 : ((Option Addr) × api_NeighConfig)) (b11 : Nat) (s12 : Int) (j175 : Sl) (j176 : Sl) (j177 : Sl) (j178 : Sl) :
    SJ weirlaw15_NeighOwn.cx [.inBlock 2, .code (c2 (c2 (c2 (c2 (c1 (c1 (c2 (c1 (c1 (c2 (c1 (c2 (c2 (c2 (c2 (c2 weirlaw15_NeighOwn.B)))))))))))))))), .inBlock 1, .code (c2 (c2 (c1 (c1 (c2 (c1 (c2 (c2 (c2 (c2 (c2 weirlaw15_NeighOwn.B))))))))))), .inLoop (c1 (c1 (c2 (c1 (c2 (c2 (c2 (c2 (c2 weirlaw15_NeighOwn.B))))))))), .inBlock 0, .code (c2 (c2 (c2 (c2 (c2 (c2 weirlaw15_NeighOwn.B))))))] [(1, Sl.v a1), (5, .pointer r2.1), (7, .pointer r4.1), (9, .pointer (some (pt b11 0))), (10, .int .i64 s12), (12, Sl.v j175), (14, Sl.v j176), (15, Sl.v j177), (13, Sl.v j178)] [] (weirlaw15_NeighOwn.K3 r2 r4 b11 s12 j175 j176 j177 j178) (weirlaw15_NeighOwn.F1 a1 r2 r4 b11) := by
  unfold weirlaw15_NeighOwn.K3
  refine SJ.less [1, 5, 7, 9, 10, 12, 13, 14, 15] (m' := [(1, Sl.v a1), (5, .pointer r2.1), (7, .pointer r4.1), (9, .pointer (some (pt b11 0))), (10, .int .i64 s12), (12, Sl.v j175), (13, Sl.v j178), (14, Sl.v j176), (15, Sl.v j177)]) ?_
  exact weirlaw15_NeighOwn.K2_ok a1 r2 r4 b11 s12 j175 j178 j176 j177
noncomputable def weirlaw15_NeighOwn.K4 (r2 : ((Option Addr) × api_NeighConfig)) (r4 : ((Option Addr) × api_NeighConfig)) (b11 : Nat) (s12 : Int) (j183 : Sl) (j184 : Sl) (j185 : Sl) (j186 : Sl) : M (LS Int Bool) :=
  weirlaw15_NeighOwn.K3 r2 r4 b11 s12 j183 j184 j185 j186
theorem weirlaw15_NeighOwn.K4_ok (a1 : Sl) (r2 : ((Option Addr) × api_NeighConfig)) (r4 : ((Option Addr) × api_NeighConfig)) (b11 : Nat) (s12 : Int) (j183 : Sl) (j184 : Sl) (j185 : Sl) (j186 : Sl) :
    SJ weirlaw15_NeighOwn.cx [.inBlock 2, .code (c2 (c2 (c2 (c2 (c1 (c1 (c2 (c1 (c1 (c2 (c1 (c2 (c2 (c2 (c2 (c2 weirlaw15_NeighOwn.B)))))))))))))))), .inBlock 1, .code (c2 (c2 (c1 (c1 (c2 (c1 (c2 (c2 (c2 (c2 (c2 weirlaw15_NeighOwn.B))))))))))), .inLoop (c1 (c1 (c2 (c1 (c2 (c2 (c2 (c2 (c2 weirlaw15_NeighOwn.B))))))))), .inBlock 0, .code (c2 (c2 (c2 (c2 (c2 (c2 weirlaw15_NeighOwn.B))))))] [(1, Sl.v a1), (5, .pointer r2.1), (7, .pointer r4.1), (9, .pointer (some (pt b11 0))), (10, .int .i64 s12), (12, Sl.v j183), (14, Sl.v j184), (15, Sl.v j185), (13, Sl.v j186)] [] (weirlaw15_NeighOwn.K4 r2 r4 b11 s12 j183 j184 j185 j186) (weirlaw15_NeighOwn.F1 a1 r2 r4 b11) := by
  unfold weirlaw15_NeighOwn.K4
  refine SJ.less [1, 5, 7, 9, 10, 12, 14, 15, 13] (m' := [(1, Sl.v a1), (5, .pointer r2.1), (7, .pointer r4.1), (9, .pointer (some (pt b11 0))), (10, .int .i64 s12), (12, Sl.v j183), (14, Sl.v j184), (15, Sl.v j185), (13, Sl.v j186)]) ?_
  exact weirlaw15_NeighOwn.K3_ok a1 r2 r4 b11 s12 j183 j184 j185 j186
noncomputable def weirlaw15_NeighOwn.L1 (a1 : Sl) (r2 : ((Option Addr) × api_NeighConfig)) (r4 : ((Option Addr) × api_NeighConfig)) (b11 : Nat) (s12 : Int) : M (LS Int Bool) :=
  (if s12 < (a1.len : Int) then
      pure (decide (s12 < 150))
    else
      pure false) >>= fun y106 =>
  if y106 = true then
    idx a1.a a1.len s12 27 >>= fun p107 =>
    ld c_weirlaw15_Op p107 >>= fun x108 =>
    slot 36 >>= fun b109 =>
    if x108.Kind = 1 then
      neigh_Cache_Want r2.1 x108.Port x108.IP x108.N >>= fun r158 =>
      slot 34 >>= fun b159 =>
      neigh_Cache_Want r4.1 x108.Port x108.IP x108.N >>= fun r160 =>
      slot 34 >>= fun b161 =>
      (if ¬ (r158.1 = r160.1) then
          pure true
        else
          pure (r158.2.1 != r160.2.1)) >>= fun y162 =>
      if y162 = true then
        pure (LS.done false)
      else
        weirlaw15_NeighOwn.K2 r2 r4 b11 s12 Sl.nil Sl.nil Sl.nil Sl.nil
    else
      if x108.Kind = 2 then
        neigh_Cache_Learn r2.1 x108.Port x108.IP x108.Mac x108.N >>= fun r179 =>
        neigh_Cache_Learn r4.1 x108.Port x108.IP x108.Mac x108.N >>= fun r180 =>
        weirlaw15_NeighOwn.K3 r2 r4 b11 s12 r179.1 Sl.nil Sl.nil r180.1
      else
        if x108.Kind = 3 then
          neigh_Cache_Tick r2.1 >>= fun r187 =>
          neigh_Cache_Tick r4.1 >>= fun r188 =>
          weirlaw15_NeighOwn.K4 r2 r4 b11 s12 r187.2 r187.1 r188.1 r188.2
        else
          weirlaw15_NeighOwn.K4 r2 r4 b11 s12 Sl.nil Sl.nil Sl.nil Sl.nil
  else
    (weirlaw15_NeighOwn.K1 r2 r4) >>= fun b => pure (LS.done b)
theorem weirlaw15_NeighOwn.L1_ok (a1 : Sl) (r2 : ((Option Addr) × api_NeighConfig)) (r4 : ((Option Addr) × api_NeighConfig)) (b11 : Nat) (s12 : Int) :
    SJ weirlaw15_NeighOwn.cx [.code (c1 (c1 (c2 (c1 (c2 (c2 (c2 (c2 (c2 weirlaw15_NeighOwn.B))))))))), .inLoop (c1 (c1 (c2 (c1 (c2 (c2 (c2 (c2 (c2 weirlaw15_NeighOwn.B))))))))), .inBlock 0, .code (c2 (c2 (c2 (c2 (c2 (c2 weirlaw15_NeighOwn.B))))))] [(1, Sl.v a1), (5, .pointer r2.1), (7, .pointer r4.1), (9, .pointer (some (pt b11 0))), (10, .int .i64 s12)] [] (weirlaw15_NeighOwn.L1 a1 r2 r4 b11 s12) (weirlaw15_NeighOwn.F1 a1 r2 r4 b11) := by
  unfold weirlaw15_NeighOwn.L1
  refine SJ.seq ?_
  refine SJ.sr 8 ?_
  refine OJ.go 5 [(55, .bool (decide (s12 < (a1.len : Int)))), (54, .bool (decide (s12 < (a1.len : Int)))), (53, .int .i64 (a1.len : Int)), (52, Sl.v a1), (51, .int .i64 s12)] ?_
  refine OJ.join (b := decide (s12 < (a1.len : Int))) [5, 6, 7] [] [1, 5, 7, 9, 10, 58] (fun y106 => [(1, Sl.v a1), (5, .pointer r2.1), (7, .pointer r4.1), (9, .pointer (some (pt b11 0))), (10, .int .i64 s12), (58, .bool y106)]) [] [] (t := 55) decide_eq_true_iff (fun hp_ => ?_) (fun hp_ => ?_) (fun _ _ _ _ _ _ h_ => h_) (fun y106 => ?_)
  · refine OJ.go 3 [(58, .bool (decide (s12 < 150))), (57, .bool (decide (s12 < 150))), (56, .int .i64 s12)] ?_
    exact OJ.nil ⟨(Cov.mem Cov.nil), rfl, _, rfl, by kernel_rfl⟩
  · refine OJ.go 3 [(58, .bool false), (57, undef), (56, undef)] ?_
    exact OJ.nil ⟨(Cov.mem Cov.nil), rfl, _, rfl, by kernel_rfl⟩
  · refine OJ.nil ?_
    refine SJ.cond (t := (.tmp 58)) (b := y106) Iff.rfl (fun hc192 => ?_) (fun hc192 => ?_)
    · refine SJ.skip ?_
      refine SJ.seq ?_
      refine SJ.block (id := 1) ?_
      refine SJ.sr 6 ?_
      refine OJ.go 2 [(62, .int .i64 s12), (61, Sl.v a1)] ?_
      refine OJ.idxS (d := 63) (T := 24) (y := .tmp 61) (j := .tmp 62) (E := 36) (cap := a1.cap) (k := .i64) (fun p107 => ?_)
      refine OJ.ld (d := 64) (y := .tmp 63) (pend2 := fun x108 => []) Ty36 (fun _ => rfl) (fun x108 => ?_)
      refine OJ.slotOf (d := 11) (op := (.alloc 36)) (cd := c_weirlaw15_Op) (u := z_weirlaw15_Op) (owed := []) (alloc_run Ty36) (fun b109 => ?_)
      refine OW.nil ?_
      refine OJ.kst (y := .tmp 11) (z := .tmp 64) (cd := c_weirlaw15_Op) (u := x108) (j := 0) (b := b109) (o := 0) (c_weirlaw15_Op.enc x108) (owed := []) Ty36 rfl (Upd.whole ((Cod.len _ _).trans (Cod.len _ _).symm)) rfl ?_
      refine OW.nil ?_
      refine OJ.nil ?_
      refine SJ.sr 2 ?_
      refine OJ.go 2 [(13, Sl.v Sl.nil), (12, Sl.v Sl.nil)] ?_
      refine OJ.nil ?_
      refine SJ.sr 2 ?_
      refine OJ.go 2 [(15, Sl.v Sl.nil), (14, Sl.v Sl.nil)] ?_
      refine OJ.nil ?_
      refine SJ.seq ?_
      refine SJ.sr 2 ?_
      refine OJ.go 1 [(65, .pointer (some (pt b109 0)))] ?_
      refine OJ.kld (d := 66) (y := .tmp 65) (cd := (cI .i64)) (j := 0) (b := b109) (o := 0) x108.Kind (pend2 := []) Ty3 rfl (At_weirlaw15_Op_Kind x108) rfl ?_
      refine OJ.nil ?_
      refine SJ.block (id := 2) ?_
      refine SJ.sr 2 ?_
      refine OJ.go 2 [(67, .bool (x108.Kind == 1)), (68, .bool (x108.Kind == 1))] ?_
      refine OJ.nil ?_
      refine SJ.cond (t := (.tmp 67)) (b := (x108.Kind == 1)) beq_iff_eq (fun hc191 => ?_) (fun hc191 => ?_)
      · refine SJ.sr 16 ?_
        refine OJ.go 2 [(71, .pointer (some (pt b109 2))), (70, .pointer r2.1)] ?_
        refine OJ.kld (d := 72) (y := .tmp 71) (cd := (cI .i64)) (j := 0) (b := b109) (o := 2) x108.Port (pend2 := []) Ty3 rfl (At_weirlaw15_Op_Port x108) rfl ?_
        refine OJ.go 1 [(73, .pointer (some (pt b109 3)))] ?_
        refine OJ.kld (d := 74) (y := .tmp 73) (cd := c_api_IP) (j := 0) (b := b109) (o := 3) x108.IP (pend2 := []) Ty32 rfl (At_weirlaw15_Op_IP x108) rfl ?_
        refine OJ.go 1 [(75, .pointer (some (pt b109 26)))] ?_
        refine OJ.kld (d := 76) (y := .tmp 75) (cd := (cI .i64)) (j := 0) (b := b109) (o := 26) x108.N (pend2 := []) Ty3 rfl (At_weirlaw15_Op_N x108) rfl ?_
        refine OJ.call (d := 77) (g := 15) (ats := #[25, 3, 32, 3]) (args := [.tmp 70, .tmp 72, .tmp 74, .tmp 76]) (owed := []) F15 (neigh_Cache_Want_ok r2.1 x108.Port x108.IP x108.N) (fun r158 => ?_)
        refine OW.nil ?_
        refine OJ.go 4 [(80, .int .i64 r158.2.2), (79, .int .i64 r158.2.1), (78, ((cI .u8).arr 6).val r158.1), (69, .tuple #[((cI .u8).arr 6).val r158.1, .int .i64 r158.2.1, .int .i64 r158.2.2])] ?_
        refine OJ.slotOf (d := 16) (op := (.alloc 34)) (cd := ((cI .u8).arr 6)) (u := (Vec.rep 6 0)) (owed := []) (alloc_run Ty34) (fun b159 => ?_)
        refine OW.nil ?_
        refine OJ.kst (y := .tmp 16) (z := .tmp 78) (cd := ((cI .u8).arr 6)) (u := r158.1) (j := 0) (b := b159) (o := 0) (((cI .u8).arr 6).enc r158.1) (owed := []) Ty34 rfl (Upd.whole ((Cod.len _ _).trans (Cod.len _ _).symm)) rfl ?_
        refine OW.nil ?_
        refine OJ.go 2 [(18, .int .i64 r158.2.2), (17, .int .i64 r158.2.1)] ?_
        refine OJ.nil ?_
        refine SJ.sr 16 ?_
        refine OJ.go 2 [(83, .pointer (some (pt b109 2))), (82, .pointer r4.1)] ?_
        refine OJ.kld (d := 84) (y := .tmp 83) (cd := (cI .i64)) (j := 1) (b := b109) (o := 2) x108.Port (pend2 := []) Ty3 rfl (At_weirlaw15_Op_Port x108) rfl ?_
        refine OJ.go 1 [(85, .pointer (some (pt b109 3)))] ?_
        refine OJ.kld (d := 86) (y := .tmp 85) (cd := c_api_IP) (j := 1) (b := b109) (o := 3) x108.IP (pend2 := []) Ty32 rfl (At_weirlaw15_Op_IP x108) rfl ?_
        refine OJ.go 1 [(87, .pointer (some (pt b109 26)))] ?_
        refine OJ.kld (d := 88) (y := .tmp 87) (cd := (cI .i64)) (j := 1) (b := b109) (o := 26) x108.N (pend2 := []) Ty3 rfl (At_weirlaw15_Op_N x108) rfl ?_
        refine OJ.call (d := 89) (g := 15) (ats := #[25, 3, 32, 3]) (args := [.tmp 82, .tmp 84, .tmp 86, .tmp 88]) (owed := []) F15 (neigh_Cache_Want_ok r4.1 x108.Port x108.IP x108.N) (fun r160 => ?_)
        refine OW.nil ?_
        refine OJ.go 4 [(92, .int .i64 r160.2.2), (91, .int .i64 r160.2.1), (90, ((cI .u8).arr 6).val r160.1), (81, .tuple #[((cI .u8).arr 6).val r160.1, .int .i64 r160.2.1, .int .i64 r160.2.2])] ?_
        refine OJ.slotOf (d := 19) (op := (.alloc 34)) (cd := ((cI .u8).arr 6)) (u := (Vec.rep 6 0)) (owed := []) (alloc_run Ty34) (fun b161 => ?_)
        refine OW.nil ?_
        refine OJ.kst (y := .tmp 19) (z := .tmp 90) (cd := ((cI .u8).arr 6)) (u := r160.1) (j := 0) (b := b161) (o := 0) (((cI .u8).arr 6).enc r160.1) (owed := []) Ty34 rfl (Upd.whole ((Cod.len _ _).trans (Cod.len _ _).symm)) rfl ?_
        refine OW.nil ?_
        refine OJ.go 2 [(21, .int .i64 r160.2.2), (20, .int .i64 r160.2.1)] ?_
        refine OJ.nil ?_
        refine SJ.sr 8 ?_
        refine OJ.kld (d := 93) (y := .tmp 16) (cd := ((cI .u8).arr 6)) (j := 1) (b := b159) (o := 0) r158.1 (pend2 := []) Ty34 rfl (At.whole _) rfl ?_
        refine OJ.kld (d := 94) (y := .tmp 19) (cd := ((cI .u8).arr 6)) (j := 0) (b := b161) (o := 0) r160.1 (pend2 := []) Ty34 rfl (At.whole _) rfl ?_
        refine OJ.neq (d := 95) (T := 34) (yT := 34) (y := .tmp 93) (z := .tmp 94) (cd := ((cI .u8).arr 6)) (p := r158.1) (q := r160.1) rfl Eq34 ?_
        refine OJ.go 1 [(96, .bool (!eqv r158.1 r160.1))] ?_
        refine OJ.join (b := (!eqv r158.1 r160.1)) [4, 5, 6, 7] [] [1, 5, 7, 9, 10, 12, 13, 14, 15, 100] (fun y162 => [(1, Sl.v a1), (5, .pointer r2.1), (7, .pointer r4.1), (9, .pointer (some (pt b11 0))), (10, .int .i64 s12), (12, Sl.v Sl.nil), (13, Sl.v Sl.nil), (14, Sl.v Sl.nil), (15, Sl.v Sl.nil), (100, .bool y162)]) [] [] (t := 96) (bnot_iff eqv_iff) (fun hp_ => ?_) (fun hp_ => ?_) (fun _ _ _ _ _ _ h_ => h_) (fun y162 => ?_)
        · refine OJ.go 4 [(100, .bool true), (99, undef), (98, undef), (97, undef)] ?_
          exact OJ.nil ⟨(Cov.mem Cov.nil), rfl, _, rfl, by kernel_rfl⟩
        · refine OJ.go 4 [(100, .bool (r158.2.1 != r160.2.1)), (99, .bool (r158.2.1 != r160.2.1)), (98, .int .i64 r160.2.1), (97, .int .i64 r158.2.1)] ?_
          exact OJ.nil ⟨(Cov.mem Cov.nil), rfl, _, rfl, by kernel_rfl⟩
        · refine OJ.nil ?_
          refine SJ.cond (t := (.tmp 100)) (b := y162) Iff.rfl (fun hc163 => ?_) (fun hc163 => ?_)
          · refine SJ.sr 1 ?_
            refine OJ.go 1 [(4, .bool false)] ?_
            refine OJ.nil ?_
            exact SJ.ret rfl (Res.run (ys := [.bool false]) (.tmp (by kernel_rfl) .nil) rfl)
          · refine SJ.skip ?_
            refine SJ.forget (List.Sublist.cons _ (List.Sublist.cons _ (List.Sublist.cons _ List.Sublist.slnil))) ?_
            refine SJ.less [1, 5, 7, 9, 10, 12, 13, 14, 15] (m' := [(1, Sl.v a1), (5, .pointer r2.1), (7, .pointer r4.1), (9, .pointer (some (pt b11 0))), (10, .int .i64 s12), (12, Sl.v Sl.nil), (13, Sl.v Sl.nil), (14, Sl.v Sl.nil), (15, Sl.v Sl.nil)]) ?_
            exact weirlaw15_NeighOwn.K2_ok a1 r2 r4 b11 s12 Sl.nil Sl.nil Sl.nil Sl.nil
      · refine SJ.sr 2 ?_
        refine OJ.go 2 [(101, .bool (x108.Kind == 2)), (102, .bool (x108.Kind == 2))] ?_
        refine OJ.nil ?_
        refine SJ.cond (t := (.tmp 101)) (b := (x108.Kind == 2)) beq_iff_eq (fun hc190 => ?_) (fun hc190 => ?_)
        · refine SJ.sr 14 ?_
          refine OJ.go 2 [(105, .pointer (some (pt b109 2))), (104, .pointer r2.1)] ?_
          refine OJ.kld (d := 106) (y := .tmp 105) (cd := (cI .i64)) (j := 0) (b := b109) (o := 2) x108.Port (pend2 := []) Ty3 rfl (At_weirlaw15_Op_Port x108) rfl ?_
          refine OJ.go 1 [(107, .pointer (some (pt b109 3)))] ?_
          refine OJ.kld (d := 108) (y := .tmp 107) (cd := c_api_IP) (j := 0) (b := b109) (o := 3) x108.IP (pend2 := []) Ty32 rfl (At_weirlaw15_Op_IP x108) rfl ?_
          refine OJ.go 1 [(109, .pointer (some (pt b109 20)))] ?_
          refine OJ.kld (d := 110) (y := .tmp 109) (cd := ((cI .u8).arr 6)) (j := 0) (b := b109) (o := 20) x108.Mac (pend2 := []) Ty34 rfl (At_weirlaw15_Op_Mac x108) rfl ?_
          refine OJ.go 1 [(111, .pointer (some (pt b109 26)))] ?_
          refine OJ.kld (d := 112) (y := .tmp 111) (cd := (cI .i64)) (j := 0) (b := b109) (o := 26) x108.N (pend2 := []) Ty3 rfl (At_weirlaw15_Op_N x108) rfl ?_
          refine OJ.call (d := 113) (g := 18) (ats := #[25, 3, 32, 34, 3]) (args := [.tmp 104, .tmp 106, .tmp 108, .tmp 110, .tmp 112]) (owed := []) F18 (neigh_Cache_Learn_ok r2.1 x108.Port x108.IP x108.Mac x108.N) (fun r179 => ?_)
          refine OW.nil ?_
          refine OJ.go 4 [(12, Sl.v r179.1), (115, .int .i64 r179.2), (114, Sl.v r179.1), (103, .tuple #[Sl.v r179.1, .int .i64 r179.2])] ?_
          refine OJ.nil ?_
          refine SJ.rg 14 ?_
          refine OJ.go 2 [(118, .pointer (some (pt b109 2))), (117, .pointer r4.1)] ?_
          refine OJ.kld (d := 119) (y := .tmp 118) (cd := (cI .i64)) (j := 0) (b := b109) (o := 2) x108.Port (pend2 := []) Ty3 rfl (At_weirlaw15_Op_Port x108) rfl ?_
          refine OJ.go 1 [(120, .pointer (some (pt b109 3)))] ?_
          refine OJ.kld (d := 121) (y := .tmp 120) (cd := c_api_IP) (j := 0) (b := b109) (o := 3) x108.IP (pend2 := []) Ty32 rfl (At_weirlaw15_Op_IP x108) rfl ?_
          refine OJ.go 1 [(122, .pointer (some (pt b109 20)))] ?_
          refine OJ.kld (d := 123) (y := .tmp 122) (cd := ((cI .u8).arr 6)) (j := 0) (b := b109) (o := 20) x108.Mac (pend2 := []) Ty34 rfl (At_weirlaw15_Op_Mac x108) rfl ?_
          refine OJ.go 1 [(124, .pointer (some (pt b109 26)))] ?_
          refine OJ.kld (d := 125) (y := .tmp 124) (cd := (cI .i64)) (j := 0) (b := b109) (o := 26) x108.N (pend2 := []) Ty3 rfl (At_weirlaw15_Op_N x108) rfl ?_
          refine OJ.call (d := 126) (g := 18) (ats := #[25, 3, 32, 34, 3]) (args := [.tmp 117, .tmp 119, .tmp 121, .tmp 123, .tmp 125]) (owed := []) F18 (neigh_Cache_Learn_ok r4.1 x108.Port x108.IP x108.Mac x108.N) (fun r180 => ?_)
          refine OW.nil ?_
          refine OJ.go 4 [(13, Sl.v r180.1), (128, .int .i64 r180.2), (127, Sl.v r180.1), (116, .tuple #[Sl.v r180.1, .int .i64 r180.2])] ?_
          refine OJ.nil ?_
          refine SJ.forget (List.Sublist.cons _ List.Sublist.slnil) ?_
          refine SJ.less [1, 5, 7, 9, 10, 12, 14, 15, 13] (m' := [(1, Sl.v a1), (5, .pointer r2.1), (7, .pointer r4.1), (9, .pointer (some (pt b11 0))), (10, .int .i64 s12), (12, Sl.v r179.1), (14, Sl.v Sl.nil), (15, Sl.v Sl.nil), (13, Sl.v r180.1)]) ?_
          exact weirlaw15_NeighOwn.K3_ok a1 r2 r4 b11 s12 r179.1 Sl.nil Sl.nil r180.1
        · refine SJ.sr 2 ?_
          refine OJ.go 2 [(129, .bool (x108.Kind == 3)), (130, .bool (x108.Kind == 3))] ?_
          refine OJ.nil ?_
          refine SJ.cond (t := (.tmp 129)) (b := (x108.Kind == 3)) beq_iff_eq (fun hc189 => ?_) (fun hc189 => ?_)
          · refine SJ.sr 7 ?_
            refine OJ.go 1 [(132, .pointer r2.1)] ?_
            refine OJ.call (d := 133) (g := 21) (ats := #[25]) (args := [.tmp 132]) (owed := []) F21 (neigh_Cache_Tick_ok r2.1) (fun r187 => ?_)
            refine OW.nil ?_
            refine OJ.go 5 [(12, Sl.v r187.2), (14, Sl.v r187.1), (135, Sl.v r187.2), (134, Sl.v r187.1), (131, .tuple #[Sl.v r187.1, Sl.v r187.2])] ?_
            refine OJ.nil ?_
            refine SJ.rg 7 ?_
            refine OJ.go 1 [(137, .pointer r4.1)] ?_
            refine OJ.call (d := 138) (g := 21) (ats := #[25]) (args := [.tmp 137]) (owed := []) F21 (neigh_Cache_Tick_ok r4.1) (fun r188 => ?_)
            refine OW.nil ?_
            refine OJ.go 5 [(13, Sl.v r188.2), (15, Sl.v r188.1), (140, Sl.v r188.2), (139, Sl.v r188.1), (136, .tuple #[Sl.v r188.1, Sl.v r188.2])] ?_
            refine OJ.nil ?_
            refine SJ.forget (List.Sublist.cons _ List.Sublist.slnil) ?_
            refine SJ.less [1, 5, 7, 9, 10, 12, 14, 15, 13] (m' := [(1, Sl.v a1), (5, .pointer r2.1), (7, .pointer r4.1), (9, .pointer (some (pt b11 0))), (10, .int .i64 s12), (12, Sl.v r187.2), (14, Sl.v r187.1), (15, Sl.v r188.1), (13, Sl.v r188.2)]) ?_
            exact weirlaw15_NeighOwn.K4_ok a1 r2 r4 b11 s12 r187.2 r187.1 r188.1 r188.2
          · refine SJ.skip ?_
            refine SJ.forget (List.Sublist.cons _ List.Sublist.slnil) ?_
            refine SJ.less [1, 5, 7, 9, 10, 12, 14, 15, 13] (m' := [(1, Sl.v a1), (5, .pointer r2.1), (7, .pointer r4.1), (9, .pointer (some (pt b11 0))), (10, .int .i64 s12), (12, Sl.v Sl.nil), (14, Sl.v Sl.nil), (15, Sl.v Sl.nil), (13, Sl.v Sl.nil)]) ?_
            exact weirlaw15_NeighOwn.K4_ok a1 r2 r4 b11 s12 Sl.nil Sl.nil Sl.nil Sl.nil
    · refine SJ.exit (id := 0) (by rfl) ?_
      refine SJ.less [5, 7] (m' := [(5, .pointer r2.1), (7, .pointer r4.1)]) ?_
      refine SJ.done ?_
      exact weirlaw15_NeighOwn.K1_ok r2 r4
noncomputable def weirlaw15_NeighOwn (a0 : api_NeighConfig) (a1 : Sl) : M Bool :=
  slot 23 >>= fun b1 =>
  weirlaw15_cache a0 >>= fun r2 =>
  slot 23 >>= fun b3 =>
  weirlaw15_cache a0 >>= fun r4 =>
  slot 23 >>= fun b5 =>
  (if r2.1 = none then
      pure true
    else
      pure (Option.isNone r4.1)) >>= fun y6 =>
  (if y6 = true then
      pure true
    else
      weirlaw15_first r2.1 >>= fun r7 =>
      pure (!r7)) >>= fun y8 =>
  (if y8 = true then
      pure true
    else
      weirlaw15_first r4.1 >>= fun r9 =>
      pure (!r9)) >>= fun y10 =>
  if y10 = true then
    pure false
  else
    newv 81 c_weirlaw15_Book z_weirlaw15_Book >>= fun b11 =>
    loopM (fun s_ : Int => weirlaw15_NeighOwn.L1 a1 r2 r4 b11 s_) 0
theorem weirlaw15_NeighOwn_ok (a0 : api_NeighConfig) (a1 : Sl) : Ref Try.prog 7 [c_api_NeighConfig.val a0, Sl.v a1] (weirlaw15_NeighOwn a0 a1) weirlaw15_NeighOwn.out := by
  refine Ref.of (cd := weirlaw15_NeighOwn.B) Try.func7 ?_
  show SJ weirlaw15_NeighOwn.cx [.code weirlaw15_NeighOwn.B] [(0, c_api_NeighConfig.val a0), (1, Sl.v a1)] [] (weirlaw15_NeighOwn a0 a1) weirlaw15_NeighOwn.F0
  unfold weirlaw15_NeighOwn
  refine SJ.sr 2 ?_
  refine OJ.slotOf (d := 2) (op := (.box 23 (.tmp 0))) (cd := c_api_NeighConfig) (u := a0) (owed := []) (box_run (by kernel_rfl)) (fun b1 => ?_)
  refine OW.nil ?_
  refine OJ.go 1 [(4, .bool false)] ?_
  refine OJ.nil ?_
  refine SJ.sr 8 ?_
  refine OJ.kld (d := 24) (y := .tmp 2) (cd := c_api_NeighConfig) (j := 0) (b := b1) (o := 0) a0 (pend2 := []) Ty23 rfl (At.whole _) rfl ?_
  refine OJ.call (d := 25) (g := 13) (ats := #[23]) (args := [.tmp 24]) (owed := []) F13 (weirlaw15_cache_ok a0) (fun r2 => ?_)
  refine OW.nil ?_
  refine OJ.go 3 [(27, c_api_NeighConfig.val r2.2), (26, .pointer r2.1), (23, .tuple #[.pointer r2.1, c_api_NeighConfig.val r2.2])] ?_
  refine OJ.slotOf (d := 6) (op := (.alloc 23)) (cd := c_api_NeighConfig) (u := z_api_NeighConfig) (owed := []) (alloc_run Ty23) (fun b3 => ?_)
  refine OW.nil ?_
  refine OJ.go 1 [(5, .pointer r2.1)] ?_
  refine OJ.kst (y := .tmp 6) (z := .tmp 27) (cd := c_api_NeighConfig) (u := r2.2) (j := 0) (b := b3) (o := 0) (c_api_NeighConfig.enc r2.2) (owed := []) Ty23 rfl (Upd.whole ((Cod.len _ _).trans (Cod.len _ _).symm)) rfl ?_
  refine OW.nil ?_
  refine OJ.nil ?_
  refine SJ.sr 8 ?_
  refine OJ.kld (d := 29) (y := .tmp 2) (cd := c_api_NeighConfig) (j := 1) (b := b1) (o := 0) a0 (pend2 := []) Ty23 rfl (At.whole _) rfl ?_
  refine OJ.call (d := 30) (g := 13) (ats := #[23]) (args := [.tmp 29]) (owed := []) F13 (weirlaw15_cache_ok a0) (fun r4 => ?_)
  refine OW.nil ?_
  refine OJ.go 3 [(32, c_api_NeighConfig.val r4.2), (31, .pointer r4.1), (28, .tuple #[.pointer r4.1, c_api_NeighConfig.val r4.2])] ?_
  refine OJ.slotOf (d := 8) (op := (.alloc 23)) (cd := c_api_NeighConfig) (u := z_api_NeighConfig) (owed := []) (alloc_run Ty23) (fun b5 => ?_)
  refine OW.nil ?_
  refine OJ.go 1 [(7, .pointer r4.1)] ?_
  refine OJ.kst (y := .tmp 8) (z := .tmp 32) (cd := c_api_NeighConfig) (u := r4.2) (j := 0) (b := b5) (o := 0) (c_api_NeighConfig.enc r4.2) (owed := []) Ty23 rfl (Upd.whole ((Cod.len _ _).trans (Cod.len _ _).symm)) rfl ?_
  refine OW.nil ?_
  refine OJ.nil ?_
  refine SJ.seq ?_
  refine SJ.sr 16 ?_
  refine OJ.go 3 [(35, .bool (Option.isNone r2.1)), (34, .bool (Option.isNone r2.1)), (33, .pointer r2.1)] ?_
  refine OJ.join (b := (Option.isNone r2.1)) [3, 4, 5] [6, 7, 8, 9, 10, 11, 12, 13, 14, 15] [1, 5, 7, 38] (fun y6 => [(1, Sl.v a1), (5, .pointer r2.1), (7, .pointer r4.1), (38, .bool y6)]) [] [] (t := 35) Option.isNone_iff_eq_none (fun hp_ => ?_) (fun hp_ => ?_) (fun _ _ _ _ _ _ h_ => h_) (fun y6 => ?_)
  · refine OJ.go 3 [(38, .bool true), (37, undef), (36, undef)] ?_
    exact OJ.nil ⟨(Cov.mem Cov.nil), rfl, _, rfl, by kernel_rfl⟩
  · refine OJ.go 3 [(38, .bool (Option.isNone r4.1)), (37, .bool (Option.isNone r4.1)), (36, .pointer r4.1)] ?_
    exact OJ.nil ⟨(Cov.mem Cov.nil), rfl, _, rfl, by kernel_rfl⟩
  · refine OJ.go 1 [(39, .bool y6)] ?_
    refine OJ.join (b := y6) [7, 8, 9, 10] [11, 12, 13, 14, 15] [1, 5, 7, 43] (fun y8 => [(1, Sl.v a1), (5, .pointer r2.1), (7, .pointer r4.1), (43, .bool y8)]) [] [] (t := 39) Iff.rfl (fun hp_ => ?_) (fun hp_ => ?_) (fun _ _ _ _ _ _ h_ => h_) (fun y8 => ?_)
    · refine OJ.go 4 [(43, .bool true), (42, undef), (41, undef), (40, undef)] ?_
      exact OJ.nil ⟨(Cov.mem Cov.nil), rfl, _, rfl, by kernel_rfl⟩
    · refine OJ.go 1 [(40, .pointer r2.1)] ?_
      refine OJ.call (d := 41) (g := 14) (ats := #[25]) (args := [.tmp 40]) (owed := []) F14 (weirlaw15_first_ok r2.1) (fun r7 => ?_)
      refine OW.nil ?_
      refine OJ.go 2 [(43, .bool (!r7)), (42, .bool (!r7))] ?_
      exact OJ.nil ⟨(Cov.mem Cov.nil), rfl, _, rfl, by kernel_rfl⟩
    · refine OJ.go 1 [(44, .bool y8)] ?_
      refine OJ.join (b := y8) [12, 13, 14, 15] [] [1, 5, 7, 48] (fun y10 => [(1, Sl.v a1), (5, .pointer r2.1), (7, .pointer r4.1), (48, .bool y10)]) [] [] (t := 44) Iff.rfl (fun hp_ => ?_) (fun hp_ => ?_) (fun _ _ _ _ _ _ h_ => h_) (fun y10 => ?_)
      · refine OJ.go 4 [(48, .bool true), (47, undef), (46, undef), (45, undef)] ?_
        exact OJ.nil ⟨(Cov.mem Cov.nil), rfl, _, rfl, by kernel_rfl⟩
      · refine OJ.go 1 [(45, .pointer r4.1)] ?_
        refine OJ.call (d := 46) (g := 14) (ats := #[25]) (args := [.tmp 45]) (owed := []) F14 (weirlaw15_first_ok r4.1) (fun r9 => ?_)
        refine OW.nil ?_
        refine OJ.go 2 [(48, .bool (!r9)), (47, .bool (!r9))] ?_
        exact OJ.nil ⟨(Cov.mem Cov.nil), rfl, _, rfl, by kernel_rfl⟩
      · refine OJ.nil ?_
        refine SJ.cond (t := (.tmp 48)) (b := y10) Iff.rfl (fun hc193 => ?_) (fun hc193 => ?_)
        · refine SJ.sr 1 ?_
          refine OJ.go 1 [(4, .bool false)] ?_
          refine OJ.nil ?_
          exact SJ.ret rfl (Res.run (ys := [.bool false]) (.tmp (by kernel_rfl) .nil) rfl)
        · refine SJ.skip ?_
          refine SJ.sr 3 ?_
          refine OJ.build (d := 49) (T := 81) (parts := []) (ps := []) (cd := c_weirlaw15_Book) (z0 := z_weirlaw15_Book) z_weirlaw15_Book Ty81 rfl Filled.nil ?_
          refine OJ.newOf (d := 50) (op := (.box 81 (.tmp 49))) (cd := c_weirlaw15_Book) (u := z_weirlaw15_Book) (owed := []) (box_run (by kernel_rfl)) (fun b11 => ?_)
          refine OW.nil ?_
          refine OJ.go 1 [(9, .pointer (some (pt b11 0)))] ?_
          refine OJ.nil ?_
          refine SJ.seq ?_
          refine SJ.sr 1 ?_
          refine OJ.go 1 [(10, .int .i64 0)] ?_
          refine OJ.nil ?_
          refine SJ.block (id := 0) ?_
          refine SJ.forget (List.Sublist.cons _ (List.Sublist.cons _ (List.Sublist.cons _ List.Sublist.slnil))) ?_
          exact SJ.loop (fun s_ : Int => [(1, Sl.v a1), (5, .pointer r2.1), (7, .pointer r4.1), (9, .pointer (some (pt b11 0))), (10, .int .i64 s_)]) (fun s_ : Int => []) [1, 5, 7, 9, 10] rfl (fun _ _ => rfl) (fun s_ => weirlaw15_NeighOwn.L1_ok a1 r2 r4 b11 s_)

/-! ### (*weir/neigh.Cache).Get: function 43 -/
noncomputable def neigh_Cache_Get.B : Code := (Try.f43.body).getD .skip
noncomputable def neigh_Cache_Get.cx : Fx := ⟨Try.prog, 43, Try.f43⟩
noncomputable def neigh_Cache_Get.out (r_ : (api_Neighbour × Bool)) : Value := .tuple #[c_api_Neighbour.val r_.1, .bool r_.2]
noncomputable def neigh_Cache_Get.F0 (r_ : (api_Neighbour × Bool)) : Reach := .ret (neigh_Cache_Get.out r_)
noncomputable def neigh_Cache_Get (a0 : (Option Addr)) (a1 : Int) (a2 : api_IP) : M (api_Neighbour × Bool) :=
  slot 32 >>= fun b1 =>
  slot 77 >>= fun b2 =>
  draw >>= fun _ =>
  nilck a0 >>= fun p3 =>
  ld cM (Addr.add p3 5) >>= fun x4 =>
  mget c_neigh_key cP none x4 (⟨a1, a2⟩ : neigh_key) >>= fun r5 =>
  if r5.1 = none then
    pure (z_api_Neighbour, false)
  else
    neigh_entry_told r5.1 >>= fun r6 =>
    pure (r6, true)
theorem neigh_Cache_Get_ok (a0 : (Option Addr)) (a1 : Int) (a2 : api_IP) : Ref Try.prog 43 [.pointer a0, .int .i64 a1, c_api_IP.val a2] (neigh_Cache_Get a0 a1 a2) neigh_Cache_Get.out := by
  refine Ref.of (cd := neigh_Cache_Get.B) Try.func43 ?_
  show SJ neigh_Cache_Get.cx [.code neigh_Cache_Get.B] [(0, .pointer a0), (1, .int .i64 a1), (2, c_api_IP.val a2)] [] (neigh_Cache_Get a0 a1 a2) neigh_Cache_Get.F0
  unfold neigh_Cache_Get
  refine SJ.sr 3 ?_
  refine OJ.slotOf (d := 5) (op := (.box 32 (.tmp 2))) (cd := c_api_IP) (u := a2) (owed := []) (box_run (by kernel_rfl)) (fun b1 => ?_)
  refine OW.nil ?_
  refine OJ.slotOf (d := 6) (op := (.alloc 77)) (cd := c_api_Neighbour) (u := z_api_Neighbour) (owed := []) (alloc_run Ty77) (fun b2 => ?_)
  refine OW.nil ?_
  refine OJ.go 1 [(7, .bool false)] ?_
  refine OJ.nil ?_
  refine SJ.seq ?_
  refine SJ.draw (id := 1) (kd := [0, 0, 0, 1, 0, 1, 0, 2, 0]) (bef := [0, 1, 3, 7, 0, 0, 48, 127, 255]) (ord := [0, 1, 2, 3, 4, 5, 6, 7, 8]) mixed ?_
  refine OJ.go 1 [(9, .pointer a0)] ?_
  refine OJ.nilck (d := 10) (y := .tmp 9) (fun p3 => ?_)
  refine OJ.go 1 [(11, .pointer (some (Addr.add p3 5)))] ?_
  refine OJ.ld (d := 12) (y := .tmp 11) (pend2 := fun x4 => [⟨3, 101, (Addr.add p3 5), cM.val x4⟩]) Ty101 (fun _ => rfl) (fun x4 => ?_)
  refine OJ.go 1 [(13, .int .i64 a1)] ?_
  refine OJ.kld (d := 14) (y := .tmp 5) (cd := c_api_IP) (j := 1) (b := b1) (o := 0) a2 (pend2 := [⟨5, 32, (pt b1 0), c_api_IP.val a2⟩, ⟨3, 101, (Addr.add p3 5), cM.val x4⟩]) Ty32 rfl (At.whole _) rfl ?_
  refine OJ.build (d := 15) (T := 99) (parts := [(0, .tmp 13), (1, .tmp 14)]) (ps := [(0, (cI .i64).val a1), (1, c_api_IP.val a2)]) (cd := c_neigh_key) (z0 := z_neigh_key) (⟨a1, a2⟩ : neigh_key) Ty99 rfl (Filled.cons (cd := (cI .i64)) (q := a1) (o := 0) (by kernel_rfl) (Up_neigh_key_port z_neigh_key a1) (Filled.cons (cd := c_api_IP) (q := a2) (o := 1) (by kernel_rfl) (Up_neigh_key_ip (⟨a1, z_neigh_key.ip⟩ : neigh_key) a2) Filled.nil)) ?_
  refine OJ.get0 (d := 16) (x := .tmp 12) (y := .tmp 15) (owed := []) Kt101 (fun r5 => ?_)
  refine OW.nil ?_
  refine OJ.go 1 [(8, .pointer r5.1)] ?_
  refine OJ.nil ?_
  refine SJ.seq ?_
  refine SJ.sr 2 ?_
  refine OJ.go 2 [(18, .bool (Option.isNone r5.1)), (17, .pointer r5.1)] ?_
  refine OJ.nil ?_
  refine SJ.cond (t := (.tmp 18)) (b := (Option.isNone r5.1)) Option.isNone_iff_eq_none (fun hc7 => ?_) (fun hc7 => ?_)
  · refine SJ.sr 3 ?_
    refine OJ.build (d := 19) (T := 77) (parts := []) (ps := []) (cd := c_api_Neighbour) (z0 := z_api_Neighbour) z_api_Neighbour Ty77 rfl Filled.nil ?_
    refine OJ.kst (y := .tmp 6) (z := .tmp 19) (cd := c_api_Neighbour) (u := z_api_Neighbour) (j := 0) (b := b2) (o := 0) (c_api_Neighbour.enc z_api_Neighbour) (owed := []) Ty77 rfl (Upd.whole ((Cod.len _ _).trans (Cod.len _ _).symm)) rfl ?_
    refine OW.nil ?_
    refine OJ.go 1 [(7, .bool false)] ?_
    refine OJ.nil ?_
    exact SJ.ret rfl (Res.run (ys := [c_api_Neighbour.val z_api_Neighbour, .bool false]) (.cell (j := 0) (b := b2) (cd := c_api_Neighbour) (q := z_api_Neighbour) (by kernel_rfl) rfl Ty77 (At.whole _) (.tmp (by kernel_rfl) .nil)) rfl)
  · refine SJ.skip ?_
    refine SJ.sr 4 ?_
    refine OJ.go 1 [(20, .pointer r5.1)] ?_
    refine OJ.call (d := 21) (g := 51) (ats := #[100]) (args := [.tmp 20]) (owed := []) F51 (neigh_entry_told_ok r5.1) (fun r6 => ?_)
    refine OW.nil ?_
    refine OJ.kst (y := .tmp 6) (z := .tmp 21) (cd := c_api_Neighbour) (u := r6) (j := 0) (b := b2) (o := 0) (c_api_Neighbour.enc r6) (owed := []) Ty77 rfl (Upd.whole ((Cod.len _ _).trans (Cod.len _ _).symm)) rfl ?_
    refine OW.nil ?_
    refine OJ.go 1 [(7, .bool true)] ?_
    refine OJ.nil ?_
    exact SJ.ret rfl (Res.run (ys := [c_api_Neighbour.val r6, .bool true]) (.cell (j := 0) (b := b2) (cd := c_api_Neighbour) (q := r6) (by kernel_rfl) rfl Ty77 (At.whole _) (.tmp (by kernel_rfl) .nil)) rfl)
end Go.Proofs.Ytlkhijflgbobjaa.Lx
