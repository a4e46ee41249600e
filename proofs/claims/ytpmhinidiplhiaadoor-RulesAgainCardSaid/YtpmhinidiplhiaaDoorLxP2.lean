/- Programs of the M-world for Go functions, each with the proof that the Go text does what it says. Printed by lxgen.py. -/
import Derived.Test.YtpmhinidiplhiaaDoorLxT
import Derived.Test.YtpmhinidiplhiaaDoorLxP0
import Derived.Test.YtpmhinidiplhiaaDoorLxP1
set_option linter.unusedVariables false
set_option linter.unusedSimpArgs false
set_option linter.unusedSectionVars false
namespace Go.Proofs.YtpmhinidiplhiaaDoor.Lx
open Go Go.Proofs
variable [ZcL]
/-! ### weir/rules.side: function 27 -/
noncomputable def Zap.B : Code := bod Tryd.f27
noncomputable def Zap.cx : Fx := ⟨Tryd.prog, 27, Tryd.f27, none⟩
noncomputable def Zap.out (r_ : ByteArray) : Value := .string r_
noncomputable def Zap.K1 (s18 : Sl) (j38 : ByteArray) : M ByteArray :=
 if (s18.len : Int) > 0 then
  Zar s18 str0 >>= fun r40 =>
  chk (((Zm6.size + r40.size : Nat) : Int) ≤ 9223372036854775807) >>= fun _ =>
  chk (((j38.size + (Zm6 ++ r40).size : Nat) : Int) ≤ 9223372036854775807) >>= fun _ =>
  pure (j38 ++ (Zm6 ++ r40))
 else
  pure j38
theorem Zap.K1_ok (s18 : Sl) (j38 : ByteArray) :
  SJ Zap.cx [.inBlock 4, .code (c2 (c2 (c2 (c2 (c2 (c2 (c2 Zap.B)))))))] [(6, Sl.v s18), (14, .string j38)] [] (Zap.K1 s18 j38) (rt Zap.out) := by
 unfold Zap.K1
 refine SJ.inBlock <| SJ.seq <| SJ.sr 3 <| J.z 3 <| J.f ?_ ?_
 ·exact SJ.rg 6 <| J.C 2 F28 (ZcP _ _) fun r40 => OJ.cat (d := 113) (T := 9) (yT := 9) (y := .const (.string Zm6)) (z := .tmp 112) (p := Zm6) (q := r40) <| OJ.cat (d := 114) (T := 9) (yT := 9) (y := .tmp 110) (z := .tmp 113) (p := j38) (q := (Zm6 ++ r40)) <| J.z 1 <| SJ.sr 2 <| J.z 2 <| J.r
 ·exact SJ.skip <| SJ.sr 2 <| J.z 2 <| J.r
noncomputable def Zap.K2 (s18 : Sl) (j44 : ByteArray) : M ByteArray :=
 Zap.K1 s18 j44
theorem Zap.K2_ok (s18 : Sl) (j44 : ByteArray) :
  SJ Zap.cx [.inBlock 4, .code (c2 (c2 (c2 (c2 (c2 (c2 (c2 Zap.B)))))))] [(6, Sl.v s18), (14, .string j44)] [] (Zap.K2 s18 j44) (rt Zap.out) := by
 unfold Zap.K2
 exact J.q <| Zap.K1_ok s18 j44
noncomputable def Zap.K3 (a0 : ByteArray) (a1 : Zan) (s2 : Sl) (s18 : Sl) : M ByteArray :=
 chk (((ZcA.size + a0.size : Nat) : Int) ≤ 9223372036854775807) >>= fun _ =>
 chk ((((ZcA ++ a0).size + ZcA.size : Nat) : Int) ≤ 9223372036854775807) >>= fun _ =>
 if (s2.len : Int) = 0 then
  chk (((((ZcA ++ a0) ++ ZcA).size + str7.size : Nat) : Int) ≤ 9223372036854775807) >>= fun _ =>
  Zap.K1 s18 (((ZcA ++ a0) ++ ZcA) ++ str7)
 else
  if a1.Not = true then
   Zar s2 str0 >>= fun r45 =>
   chk (((Zl3.size + r45.size : Nat) : Int) ≤ 9223372036854775807) >>= fun _ =>
   chk (((((ZcA ++ a0) ++ ZcA).size + (Zl3 ++ r45).size : Nat) : Int) ≤ 9223372036854775807) >>= fun _ =>
   Zap.K2 s18 (((ZcA ++ a0) ++ ZcA) ++ (Zl3 ++ r45))
  else
   Zar s2 str0 >>= fun r46 =>
   chk (((((ZcA ++ a0) ++ ZcA).size + r46.size : Nat) : Int) ≤ 9223372036854775807) >>= fun _ =>
   Zap.K2 s18 (((ZcA ++ a0) ++ ZcA) ++ r46)
theorem Zap.K3_ok (a0 : ByteArray) (a1 : Zan) (b1 : Nat) (s2 : Sl) (s18 : Sl) :
  SJ Zap.cx [.code (c2 (c2 (c2 (c2 (c2 Zap.B)))))] [(0, .string a0), (3, .pointer (some (pt b1 0))), (5, Sl.v s2), (6, Sl.v s18)] [(b1, ZaF.enc a1)] (Zap.K3 a0 a1 s2 s18) (rt Zap.out) := by
 unfold Zap.K3
 refine SJ.sr 4 <| J.g 1 <| OJ.cat (d := 87) (T := 9) (yT := 9) (y := .const (.string ZcA)) (z := .tmp 86) (p := ZcA) (q := a0) <| OJ.cat (d := 88) (T := 9) (yT := 9) (y := .tmp 87) (z := .const (.string ZcA)) (p := (ZcA ++ a0)) (q := ZcA) <| J.z 1 <| SJ.seq <| SJ.block (id := 4) <| SJ.sr 4 <| J.z 4 <| J.f ?_ ?_
 ·exact SJ.rg 3 <| J.g 1 <| OJ.cat (d := 98) (T := 9) (yT := 9) (y := .tmp 97) (z := .const (.string str7)) (p := ((ZcA ++ a0) ++ ZcA)) (q := str7) <| J.z 1 <| SJ.forget (List.Sublist.cons _ List.Sublist.slnil) <| J.q <| Zap.K1_ok s18 (((ZcA ++ a0) ++ ZcA) ++ str7)
 ·refine SJ.sr 3 <| J.k 1 0 rfl Ty4 (Zd6 _) <| J.z 1 <| J.f ?_ ?_
  ·exact SJ.rg 6 <| J.C 2 F28 (ZcP _ _) fun r45 => OJ.cat (d := 105) (T := 9) (yT := 9) (y := .const (.string Zl3)) (z := .tmp 104) (p := Zl3) (q := r45) <| OJ.cat (d := 106) (T := 9) (yT := 9) (y := .tmp 102) (z := .tmp 105) (p := ((ZcA ++ a0) ++ ZcA)) (q := (Zl3 ++ r45)) <| J.z 1 <| SJ.forget (List.Sublist.cons _ List.Sublist.slnil) <| J.q <| Zap.K2_ok s18 (((ZcA ++ a0) ++ ZcA) ++ (Zl3 ++ r45))
  ·exact SJ.rg 5 <| J.C 2 F28 (ZcP _ _) fun r46 => OJ.cat (d := 92) (T := 9) (yT := 9) (y := .tmp 89) (z := .tmp 91) (p := ((ZcA ++ a0) ++ ZcA)) (q := r46) <| J.z 1 <| SJ.forget (List.Sublist.cons _ List.Sublist.slnil) <| J.q <| Zap.K2_ok s18 (((ZcA ++ a0) ++ ZcA) ++ r46)
noncomputable def Zap.F1 (a0 : ByteArray) (a1 : Zan) (b1 : Nat) (s2 : Sl) : LF (Sl × Int) ByteArray := ⟨[.inBlock 2, .code (c2 (c2 (c2 (c2 (c2 Zap.B)))))], c1 (c2 (c1 (c2 (c2 (c2 (c2 Zap.B)))))), fun s_ => [(0, .string a0), (3, .pointer (some (pt b1 0))), (5, Sl.v s2), (6, Sl.v s_.1), (61, Sl.v a1.Ports), (62, .int .i64 (a1.Ports.len : Int)), (63, .int .i64 s_.2)], fun s_ => [(b1, ZaF.enc a1)], (rt Zap.out)⟩
noncomputable def Zap.L1 (a0 : ByteArray) (a1 : Zan) (s2 : Sl) (s18 : Sl) (s19 : Int) : M (LS (Sl × Int) ByteArray) :=
 if s19 < (a1.Ports.len : Int) then
  idx a1.Ports.a a1.Ports.len s19 2 >>= fun p49 =>
  ld ZaS p49 >>= fun x50 =>
  slot 64 >>= fun b51 =>
  Zbl x50.Lo >>= fun r52 =>
  if x50.Hi ≠ x50.Lo then
   Zbl x50.Hi >>= fun r54 =>
   chk (((ZgY.size + r54.size : Nat) : Int) ≤ 9223372036854775807) >>= fun _ =>
   chk (((r52.size + (ZgY ++ r54).size : Nat) : Int) ≤ 9223372036854775807) >>= fun _ =>
   slot 9 >>= fun b55 =>
   appl cS 9 16 ByteArray.empty s18 [(r52 ++ (ZgY ++ r54))] >>= fun r56 =>
   pure (LS.next (r56, IntKind.wrap .i64 (s19 + 1)))
  else
   slot 9 >>= fun b57 =>
   appl cS 9 16 ByteArray.empty s18 [r52] >>= fun r58 =>
   pure (LS.next (r58, IntKind.wrap .i64 (s19 + 1)))
 else
  (Zap.K3 a0 a1 s2 s18) >>= fun b => pure (LS.done b)
theorem Zap.L1_ok (a0 : ByteArray) (a1 : Zan) (b1 : Nat) (s2 : Sl) : LJ Zap.cx (Zap.F1 a0 a1 b1 s2) (fun s_ => Zap.L1 a0 a1 s2 s_.1 s_.2) := by
 rintro ⟨s18, s19⟩
 show SJ _ _ _ _ (Zap.L1 a0 a1 s2 s18 s19) _
 unfold Zap.L1
 refine SJ.sr 1 <| J.z 1 <| SJ.seq <| J.f ?_ ?_
 ·refine SJ.skip <| SJ.seq <| SJ.block (id := 3) <| SJ.sr 4 <| J.i 0 fun p49 => J.l 0 Ty64 fun x50 => J.a 0 Ty64 fun b51 => J.s 0 0 rfl Ty64 (Upd.w x50) <| J.z 0 <| SJ.sr 4 <| J.k 1 0 rfl Ty3 (ZcU _) <| J.C 0 F25 (ZbL _) fun r52 => J.z 1 <| SJ.seq <| SJ.sr 5 <| J.k 1 0 rfl Ty3 (ZcV _) <| J.k 1 0 rfl Ty3 (ZcU _) <| J.z 1 <| J.f ?_ ?_
  ·exact SJ.rg 7 <| J.k 2 0 rfl Ty3 (ZcV _) <| J.C 0 F25 (ZbL _) fun r54 => OJ.cat (d := 79) (T := 9) (yT := 9) (y := .const (.string ZgY)) (z := .tmp 78) (p := ZgY) (q := r54) <| OJ.cat (d := 80) (T := 9) (yT := 9) (y := .tmp 75) (z := .tmp 79) (p := r52) (q := (ZgY ++ r54)) <| J.z 1 <| SJ.rg 5 <| J.g 2 <| OJ.rowSlot (d := 83) (t := 65) (parts := [(0, .tmp 82)]) (ps := [(0, cS.val (r52 ++ (ZgY ++ r54)))]) (cd := cS) (⟨[(r52 ++ (ZgY ++ r54))], rfl⟩ : Vec ByteArray 1) (owed := []) Ty9 (Zbj.cons (cd := cS) (q := (r52 ++ (ZgY ++ r54))) (o := 0) rfl (Upd.arr (i := 0) (by decide) (by decide)) Zbj.nil) fun b55 => OW.nil <| OJ.appl (d := 84) (t := 65) (u := 65) (so := .tmp 81) (xo := .tmp 83) (j := 0) (b := b55) (l := (cS.arr 1).enc (⟨[(r52 ++ (ZgY ++ r54))], rfl⟩ : Vec ByteArray 1)) (n := 1) (k := 1) [(r52 ++ (ZgY ++ r54))] (owed := []) Ty9 (by rfl) (Cod.arr_enc _ _ _) (by rfl) fun r56 => OW.nil <| J.z 1 <| SJ.inBlock <| SJ.rg 2 <| J.z 2 <| SJ.forget (List.Sublist.cons _ (List.Sublist.cons _ (List.Sublist.cons_cons _ List.Sublist.slnil))) <| J.o rfl
  ·exact SJ.skip <| SJ.rg 5 <| J.g 2 <| OJ.rowSlot (d := 83) (t := 65) (parts := [(0, .tmp 82)]) (ps := [(0, cS.val r52)]) (cd := cS) (⟨[r52], rfl⟩ : Vec ByteArray 1) (owed := []) Ty9 (Zbj.cons (cd := cS) (q := r52) (o := 0) rfl (Upd.arr (i := 0) (by decide) (by decide)) Zbj.nil) fun b57 => OW.nil <| OJ.appl (d := 84) (t := 65) (u := 65) (so := .tmp 81) (xo := .tmp 83) (j := 0) (b := b57) (l := (cS.arr 1).enc (⟨[r52], rfl⟩ : Vec ByteArray 1)) (n := 1) (k := 1) [r52] (owed := []) Ty9 (by rfl) (Cod.arr_enc _ _ _) (by rfl) fun r58 => OW.nil <| J.z 1 <| SJ.inBlock <| SJ.rg 2 <| J.z 2 <| SJ.forget (List.Sublist.cons _ (List.Sublist.cons _ (List.Sublist.cons_cons _ List.Sublist.slnil))) <| J.o rfl
 ·exact SJ.exit (id := 2) (by rfl) <| J.q <| SJ.done <| Zap.K3_ok a0 a1 b1 s2 s18
noncomputable def Zap.K4 (a0 : ByteArray) (a1 : Zan) (s2 : Sl) : M ByteArray :=
 Zck (fun s_ : (Sl × Int) => Zap.L1 a0 a1 s2 s_.1 s_.2) (Sl.nil, 0)
theorem Zap.K4_ok (a0 : ByteArray) (a1 : Zan) (b1 : Nat) (s2 : Sl) :
  SJ Zap.cx [.code (c2 (c2 (c2 (c2 Zap.B))))] [(0, .string a0), (3, .pointer (some (pt b1 0))), (5, Sl.v s2), (6, Sl.v Sl.nil)] [(b1, ZaF.enc a1)] (Zap.K4 a0 a1 s2) (rt Zap.out) := by
 unfold Zap.K4
 exact SJ.seq <| SJ.sr 4 <| J.k 1 0 rfl Ty23 (Zbb _) <| J.z 2 <| SJ.block (id := 2) <| J.L (Zap.L1_ok a0 a1 b1 s2)
noncomputable def Zap.F2 (a0 : ByteArray) (a1 : Zan) (b1 : Nat) : LF (Sl × Int) ByteArray := ⟨[.inBlock 0, .code (c2 (c2 (c2 (c2 Zap.B))))], c1 (c2 (c1 (c2 (c2 (c2 Zap.B))))), fun s_ => [(0, .string a0), (3, .pointer (some (pt b1 0))), (5, Sl.v s_.1), (6, Sl.v Sl.nil), (24, Sl.v a1.Nets), (25, .int .i64 (a1.Nets.len : Int)), (26, .int .i64 s_.2)], fun s_ => [(b1, ZaF.enc a1)], (rt Zap.out)⟩
noncomputable def Zap.L2 (a0 : ByteArray) (a1 : Zan) (s2 : Sl) (s3 : Int) : M (LS (Sl × Int) ByteArray) :=
 if s3 < (a1.Nets.len : Int) then
  idx a1.Nets.a a1.Nets.len s3 18 >>= fun p61 =>
  ld Zav p61 >>= fun x62 =>
  slot 61 >>= fun b63 =>
  Zch x62 >>= fun r64 =>
  (if x62.Len = 32 then
    pure (x62.IP.V == 4)
   else
    pure false) >>= fun y65 =>
  (if y65 = true then
    pure true
   else
    pure (x62.Len == 128)) >>= fun y66 =>
  if y66 = true then
   ZaQ x62.IP >>= fun r68 =>
   slot 9 >>= fun b69 =>
   appl cS 9 16 ByteArray.empty s2 [r68.1] >>= fun r70 =>
   pure (LS.next (r70, IntKind.wrap .i64 (s3 + 1)))
  else
   slot 9 >>= fun b71 =>
   appl cS 9 16 ByteArray.empty s2 [r64.1] >>= fun r72 =>
   pure (LS.next (r72, IntKind.wrap .i64 (s3 + 1)))
 else
  (Zap.K4 a0 a1 s2) >>= fun b => pure (LS.done b)
theorem Zap.L2_ok (a0 : ByteArray) (a1 : Zan) (b1 : Nat) : LJ Zap.cx (Zap.F2 a0 a1 b1) (fun s_ => Zap.L2 a0 a1 s_.1 s_.2) := by
 rintro ⟨s2, s3⟩
 show SJ _ _ _ _ (Zap.L2 a0 a1 s2 s3) _
 unfold Zap.L2
 refine SJ.sr 1 <| J.z 1 <| SJ.seq <| J.f ?_ ?_
 ·refine SJ.skip <| SJ.seq <| SJ.block (id := 1) <| SJ.sr 4 <| J.i 0 fun p61 => J.l 0 Ty61 fun x62 => J.a 0 Ty61 fun b63 => J.s 0 0 rfl Ty61 (Upd.w x62) <| J.z 0 <| SJ.sr 7 <| J.k 0 0 rfl Ty61 (At.whole _) <| J.C 0 F41 (Zhb _) fun r64 => J.z 5 <| SJ.seq <| SJ.sr 14 <| J.k 1 0 rfl Ty3 (ZbS _) <| J.j 2 4 .bool ?_ ?_ fun y65 => ?_
  ·exact J.k 2 0 rfl Ty3 (At.trans (ZbA _) (Zdm _)) <| J.e 2
  ·exact J.e 5
  ·refine J.j 1 3 .bool ?_ ?_ fun y66 => ?_
   ·exact J.e 4
   ·exact J.k 1 0 rfl Ty3 (ZbS _) <| J.e 2
   ·refine J.z 0 <| J.f ?_ ?_
    ·exact SJ.rg 7 <| J.k 1 0 rfl Ty59 (ZbA _) <| J.C 0 F42 (Zgt _) fun r68 => J.z 4 <| SJ.rg 5 <| J.g 2 <| OJ.rowSlot (d := 57) (t := 65) (parts := [(0, .tmp 56)]) (ps := [(0, cS.val r68.1)]) (cd := cS) (⟨[r68.1], rfl⟩ : Vec ByteArray 1) (owed := []) Ty9 (Zbj.cons (cd := cS) (q := r68.1) (o := 0) rfl (Upd.arr (i := 0) (by decide) (by decide)) Zbj.nil) fun b69 => OW.nil <| OJ.appl (d := 58) (t := 65) (u := 65) (so := .tmp 55) (xo := .tmp 57) (j := 0) (b := b69) (l := (cS.arr 1).enc (⟨[r68.1], rfl⟩ : Vec ByteArray 1)) (n := 1) (k := 1) [r68.1] (owed := []) Ty9 (by rfl) (Cod.arr_enc _ _ _) (by rfl) fun r70 => OW.nil <| J.z 1 <| SJ.inBlock <| SJ.rg 2 <| J.z 2 <| SJ.forget (List.Sublist.cons _ (List.Sublist.cons _ (List.Sublist.cons_cons _ List.Sublist.slnil))) <| J.o rfl
    ·exact SJ.skip <| SJ.rg 5 <| J.g 2 <| OJ.rowSlot (d := 57) (t := 65) (parts := [(0, .tmp 56)]) (ps := [(0, cS.val r64.1)]) (cd := cS) (⟨[r64.1], rfl⟩ : Vec ByteArray 1) (owed := []) Ty9 (Zbj.cons (cd := cS) (q := r64.1) (o := 0) rfl (Upd.arr (i := 0) (by decide) (by decide)) Zbj.nil) fun b71 => OW.nil <| OJ.appl (d := 58) (t := 65) (u := 65) (so := .tmp 55) (xo := .tmp 57) (j := 0) (b := b71) (l := (cS.arr 1).enc (⟨[r64.1], rfl⟩ : Vec ByteArray 1)) (n := 1) (k := 1) [r64.1] (owed := []) Ty9 (by rfl) (Cod.arr_enc _ _ _) (by rfl) fun r72 => OW.nil <| J.z 1 <| SJ.inBlock <| SJ.rg 2 <| J.z 2 <| SJ.forget (List.Sublist.cons _ (List.Sublist.cons _ (List.Sublist.cons_cons _ List.Sublist.slnil))) <| J.o rfl
 ·exact SJ.exit (id := 0) (by rfl) <| J.q <| SJ.done <| Zap.K4_ok a0 a1 b1 s2
noncomputable def Zap (a0 : ByteArray) (a1 : Zan) : M ByteArray :=
 slot 25 >>= fun b1 =>
 if (IntKind.wrap .i64 ((a1.Nets.len : Int) + (a1.Ports.len : Int))) = 0 then
  pure ByteArray.empty
 else
  Zck (fun s_ : (Sl × Int) => Zap.L2 a0 a1 s_.1 s_.2) (Sl.nil, 0)
theorem Zhm (a0 : ByteArray) (a1 : Zan) : Ref Tryd.prog 27 [.string a0, ZaF.val a1] (Zap a0 a1) Zap.out := by
 refine J.Fn Tryd.func27 ?_
 unfold Zap
 refine SJ.sr 2 <| J.b 0 ZaF a1 fun b1 => J.z 1 <| SJ.seq <| SJ.sr 8 <| J.k 1 0 rfl Ty22 (Zbi _) <| J.k 2 0 rfl Ty23 (Zbb _) <| J.z 3 <| J.f ?_ ?_
 ·exact SJ.sr 1 <| J.z 1 <| J.r
 ·exact SJ.skip <| SJ.sr 2 <| J.z 2 <| SJ.seq <| SJ.sr 4 <| J.k 1 0 rfl Ty22 (Zbi _) <| J.z 2 <| SJ.block (id := 0) <| J.L (Zap.L2_ok a0 a1 b1)

/-! ### weir/rules.write: function 15 -/
noncomputable def Zae.B : Code := bod Tryd.f15
noncomputable def Zae.cx : Fx := ⟨Tryd.prog, 15, Tryd.f15, none⟩
noncomputable def Zae.out (r_ : ByteArray) : Value := .string r_
noncomputable def Zae.K1 (a0 : Zas) (j34 : ByteArray) : M ByteArray :=
 if a0.Type_ > 0 then
  Zbl (IntKind.wrap .i64 (a0.Type_ - 1)) >>= fun r36 =>
  chk (((Zj3.size + r36.size : Nat) : Int) ≤ 9223372036854775807) >>= fun _ =>
  chk (((j34.size + (Zj3 ++ r36).size : Nat) : Int) ≤ 9223372036854775807) >>= fun _ =>
  if a0.Pieces = true then
   chk ((((j34 ++ (Zj3 ++ r36)).size + Zk5.size : Nat) : Int) ≤ 9223372036854775807) >>= fun _ =>
   pure ((j34 ++ (Zj3 ++ r36)) ++ Zk5)
  else
   pure (j34 ++ (Zj3 ++ r36))
 else
  if a0.Pieces = true then
   chk (((j34.size + Zk5.size : Nat) : Int) ≤ 9223372036854775807) >>= fun _ =>
   pure (j34 ++ Zk5)
  else
   pure j34
theorem Zae.K1_ok (a0 : Zas) (b1 : Nat) (j34 : ByteArray) :
  SJ Zae.cx [.code (c2 (c2 (c2 (c2 (c2 (c2 (c2 (c2 (c2 (c2 Zae.B))))))))))] [(1, .pointer (some (pt b1 0))), (3, .string j34)] [(b1, Zaq.enc a0)] (Zae.K1 a0 j34) (rt Zae.out) := by
 unfold Zae.K1
 refine SJ.seq <| SJ.sr 3 <| J.k 1 0 rfl Ty3 (Zcn _) <| J.z 1 <| J.f ?_ ?_
 ·refine SJ.rg 8 <| J.k 2 0 rfl Ty3 (Zcn _) <| J.C 1 F25 (ZbL _) fun r36 => OJ.cat (d := 101) (T := 9) (yT := 9) (y := .const (.string Zj3)) (z := .tmp 100) (p := Zj3) (q := r36) <| OJ.cat (d := 102) (T := 9) (yT := 9) (y := .tmp 96) (z := .tmp 101) (p := j34) (q := (Zj3 ++ r36)) <| J.z 1 <| SJ.seq <| SJ.sr 2 <| J.k 1 0 rfl Ty4 (Zdc _) <| J.z 0 <| J.f ?_ ?_
  ·exact SJ.rg 3 <| J.g 1 <| OJ.cat (d := 106) (T := 9) (yT := 9) (y := .tmp 105) (z := .const (.string Zk5)) (p := (j34 ++ (Zj3 ++ r36))) (q := Zk5) <| J.z 1 <| SJ.sr 2 <| J.z 2 <| J.r
  ·exact SJ.skip <| SJ.sr 2 <| J.z 2 <| J.r
 ·refine SJ.skip <| SJ.seq <| SJ.sr 2 <| J.k 1 0 rfl Ty4 (Zdc _) <| J.z 0 <| J.f ?_ ?_
  ·exact SJ.rg 3 <| J.g 1 <| OJ.cat (d := 106) (T := 9) (yT := 9) (y := .tmp 105) (z := .const (.string Zk5)) (p := j34) (q := Zk5) <| J.z 1 <| SJ.sr 2 <| J.z 2 <| J.r
  ·exact SJ.skip <| SJ.sr 2 <| J.z 2 <| J.r
noncomputable def Zae.K2 (a0 : Zas) (j11 : ByteArray) (r12 : ByteArray) (r13 : ByteArray) (s15 : Sl) : M ByteArray :=
 if (s15.len : Int) > 0 then
  Zar s15 str0 >>= fun r40 =>
  chk (((ZlZ.size + r40.size : Nat) : Int) ≤ 9223372036854775807) >>= fun _ =>
  chk ((((j11 ++ (r12 ++ r13)).size + (ZlZ ++ r40).size : Nat) : Int) ≤ 9223372036854775807) >>= fun _ =>
  Zae.K1 a0 ((j11 ++ (r12 ++ r13)) ++ (ZlZ ++ r40))
 else
  Zae.K1 a0 (j11 ++ (r12 ++ r13))
theorem Zae.K2_ok (a0 : Zas) (b1 : Nat) (j11 : ByteArray) (r12 : ByteArray) (r13 : ByteArray) (s15 : Sl) :
  SJ Zae.cx [.code (c2 (c2 (c2 (c2 (c2 (c2 (c2 (c2 (c2 Zae.B)))))))))] [(1, .pointer (some (pt b1 0))), (3, .string (j11 ++ (r12 ++ r13))), (4, Sl.v s15)] [(b1, Zaq.enc a0)] (Zae.K2 a0 j11 r12 r13 s15) (rt Zae.out) := by
 unfold Zae.K2
 refine SJ.seq <| SJ.sr 3 <| J.z 3 <| J.f ?_ ?_
 ·exact SJ.rg 6 <| J.C 2 F28 (ZcP _ _) fun r40 => OJ.cat (d := 91) (T := 9) (yT := 9) (y := .const (.string ZlZ)) (z := .tmp 90) (p := ZlZ) (q := r40) <| OJ.cat (d := 92) (T := 9) (yT := 9) (y := .tmp 88) (z := .tmp 91) (p := (j11 ++ (r12 ++ r13))) (q := (ZlZ ++ r40)) <| J.z 1 <| J.q <| Zae.K1_ok a0 b1 ((j11 ++ (r12 ++ r13)) ++ (ZlZ ++ r40))
 ·exact SJ.skip <| J.q <| Zae.K1_ok a0 b1 (j11 ++ (r12 ++ r13))
noncomputable def Zae.F1 (a0 : Zas) (b1 : Nat) (j11 : ByteArray) (r12 : ByteArray) (r13 : ByteArray) (x14 : Sl) : LF (Sl × Int) ByteArray := ⟨[.inBlock 0, .code (c2 (c2 (c2 (c2 (c2 (c2 (c2 (c2 (c2 Zae.B)))))))))], c1 (c2 (c1 (c2 (c2 (c2 (c2 (c2 (c2 (c2 (c2 Zae.B)))))))))), fun s_ => [(1, .pointer (some (pt b1 0))), (3, .string (j11 ++ (r12 ++ r13))), (4, Sl.v s_.1), (54, Sl.v x14), (55, .int .i64 (x14.len : Int)), (56, .int .i64 s_.2)], fun s_ => [(b1, Zaq.enc a0)], (rt Zae.out)⟩
noncomputable def Zae.K3 (a0 : Zas) (s16 : Int) (x43 : ByteArray) (j46 : Sl) : M (LS (Sl × Int) ByteArray) :=
 chk (0 ≤ (IntKind.wrap .u64 s16)) >>= fun _ =>
 if (band .i64 (Int.fdiv a0.Clear (2 ^ min (Int.toNat (IntKind.wrap .u64 s16)) 64)) 1) = 1 then
  chk (((ZiJ.size + x43.size : Nat) : Int) ≤ 9223372036854775807) >>= fun _ =>
  slot 9 >>= fun b49 =>
  appl cS 9 16 ByteArray.empty j46 [(ZiJ ++ x43)] >>= fun r50 =>
  pure (LS.next (r50, IntKind.wrap .i64 (s16 + 1)))
 else
  pure (LS.next (j46, IntKind.wrap .i64 (s16 + 1)))
theorem Zae.K3_ok (a0 : Zas) (b1 : Nat) (j11 : ByteArray) (r12 : ByteArray) (r13 : ByteArray) (x14 : Sl) (s16 : Int) (x43 : ByteArray) (j46 : Sl) :
  SJ Zae.cx [.code (c2 (c2 (c1 (c1 (c2 (c2 (c1 (c1 (c2 (c1 (c2 (c2 (c2 (c2 (c2 (c2 (c2 (c2 Zae.B)))))))))))))))))), .inBlock 1, .code (c2 (c2 (c2 (c1 (c1 (c2 (c1 (c2 (c2 (c2 (c2 (c2 (c2 (c2 (c2 Zae.B))))))))))))))), .inLoop (c1 (c1 (c2 (c1 (c2 (c2 (c2 (c2 (c2 (c2 (c2 (c2 Zae.B)))))))))))), .inBlock 0, .code (c2 (c2 (c2 (c2 (c2 (c2 (c2 (c2 (c2 Zae.B)))))))))] [(1, .pointer (some (pt b1 0))), (3, .string (j11 ++ (r12 ++ r13))), (4, Sl.v j46), (54, Sl.v x14), (55, .int .i64 (x14.len : Int)), (56, .int .i64 s16), (5, .int .i64 s16), (6, .string x43)] [(b1, Zaq.enc a0)] (Zae.K3 a0 s16 x43 j46) (Zae.F1 a0 b1 j11 r12 r13 x14).f := by
 unfold Zae.K3
 refine SJ.sr 7 <| J.k 1 0 rfl Ty3 (ZbR _) <| J.g 2 <| OJ.shr (d := 76) (T := 3) (yT := 68) (y := .tmp 73) (z := .tmp 75) (k := .i64) (yk := .u64) (p := a0.Clear) (q := (IntKind.wrap .u64 s16)) fun hq52 => J.z 2 <| J.f ?_ ?_
 ·exact SJ.rg 6 <| J.g 2 <| OJ.cat (d := 81) (T := 9) (yT := 9) (y := .const (.string ZiJ)) (z := .tmp 80) (p := ZiJ) (q := x43) <| OJ.rowSlot (d := 82) (t := 65) (parts := [(0, .tmp 81)]) (ps := [(0, cS.val (ZiJ ++ x43))]) (cd := cS) (⟨[(ZiJ ++ x43)], rfl⟩ : Vec ByteArray 1) (owed := []) Ty9 (Zbj.cons (cd := cS) (q := (ZiJ ++ x43)) (o := 0) rfl (Upd.arr (i := 0) (by decide) (by decide)) Zbj.nil) fun b49 => OW.nil <| OJ.appl (d := 83) (t := 65) (u := 65) (so := .tmp 79) (xo := .tmp 82) (j := 0) (b := b49) (l := (cS.arr 1).enc (⟨[(ZiJ ++ x43)], rfl⟩ : Vec ByteArray 1)) (n := 1) (k := 1) [(ZiJ ++ x43)] (owed := []) Ty9 (by rfl) (Cod.arr_enc _ _ _) (by rfl) fun r50 => OW.nil <| J.z 1 <| SJ.inBlock <| SJ.rg 2 <| J.z 2 <| SJ.forget (List.Sublist.cons _ (List.Sublist.cons_cons _ List.Sublist.slnil)) <| J.o rfl
 ·exact SJ.skip <| SJ.inBlock <| SJ.rg 2 <| J.z 2 <| J.o rfl
noncomputable def Zae.L1 (a0 : Zas) (j11 : ByteArray) (r12 : ByteArray) (r13 : ByteArray) (x14 : Sl) (s15 : Sl) (s16 : Int) : M (LS (Sl × Int) ByteArray) :=
 if s16 < (x14.len : Int) then
  idx x14.a x14.len s16 1 >>= fun p42 =>
  ld cS p42 >>= fun x43 =>
  chk (0 ≤ (IntKind.wrap .u64 s16)) >>= fun _ =>
  if (band .i64 (Int.fdiv a0.Set (2 ^ min (Int.toNat (IntKind.wrap .u64 s16)) 64)) 1) = 1 then
   slot 9 >>= fun b53 =>
   appl cS 9 16 ByteArray.empty s15 [x43] >>= fun r54 =>
   Zae.K3 a0 s16 x43 r54
  else
   Zae.K3 a0 s16 x43 s15
 else
  (Zae.K2 a0 j11 r12 r13 s15) >>= fun b => pure (LS.done b)
theorem Zae.L1_ok (a0 : Zas) (b1 : Nat) (j11 : ByteArray) (r12 : ByteArray) (r13 : ByteArray) (x14 : Sl) : LJ Zae.cx (Zae.F1 a0 b1 j11 r12 r13 x14) (fun s_ => Zae.L1 a0 j11 r12 r13 x14 s_.1 s_.2) := by
 rintro ⟨s15, s16⟩
 show SJ _ _ _ _ (Zae.L1 a0 j11 r12 r13 x14 s15 s16) _
 unfold Zae.L1
 refine SJ.sr 1 <| J.z 1 <| SJ.seq <| J.f ?_ ?_
 ·refine SJ.skip <| SJ.seq <| SJ.block (id := 1) <| SJ.sr 5 <| J.i 1 fun p42 => J.l 0 Ty9 fun x43 => J.z 2 <| SJ.seq <| SJ.sr 7 <| J.k 1 0 rfl Ty3 (Zcc _) <| J.g 2 <| OJ.shr (d := 65) (T := 3) (yT := 68) (y := .tmp 62) (z := .tmp 64) (k := .i64) (yk := .u64) (p := a0.Set) (q := (IntKind.wrap .u64 s16)) fun hq56 => J.z 2 <| J.f ?_ ?_
  ·exact SJ.rg 5 <| J.g 2 <| OJ.rowSlot (d := 70) (t := 65) (parts := [(0, .tmp 69)]) (ps := [(0, cS.val x43)]) (cd := cS) (⟨[x43], rfl⟩ : Vec ByteArray 1) (owed := []) Ty9 (Zbj.cons (cd := cS) (q := x43) (o := 0) rfl (Upd.arr (i := 0) (by decide) (by decide)) Zbj.nil) fun b53 => OW.nil <| OJ.appl (d := 71) (t := 65) (u := 65) (so := .tmp 68) (xo := .tmp 70) (j := 0) (b := b53) (l := (cS.arr 1).enc (⟨[x43], rfl⟩ : Vec ByteArray 1)) (n := 1) (k := 1) [x43] (owed := []) Ty9 (by rfl) (Cod.arr_enc _ _ _) (by rfl) fun r54 => OW.nil <| J.z 1 <| SJ.forget (List.Sublist.cons _ (List.Sublist.cons_cons _ List.Sublist.slnil)) <| J.q <| Zae.K3_ok a0 b1 j11 r12 r13 x14 s16 x43 r54
  ·exact SJ.skip <| J.q <| Zae.K3_ok a0 b1 j11 r12 r13 x14 s16 x43 s15
 ·exact SJ.exit (id := 0) (by rfl) <| J.q <| SJ.done <| Zae.K2_ok a0 b1 j11 r12 r13 s15
noncomputable def Zae.K4 (a0 : Zas) (j11 : ByteArray) : M ByteArray :=
 draw >>= fun _ =>
 Zap Zna a0.From >>= fun r12 =>
 Zap ZpF a0.To >>= fun r13 =>
 chk (((r12.size + r13.size : Nat) : Int) ≤ 9223372036854775807) >>= fun _ =>
 chk (((j11.size + (r12 ++ r13).size : Nat) : Int) ≤ 9223372036854775807) >>= fun _ =>
 ld cL ⟨1, 0, none⟩ >>= fun x14 =>
 Zck (fun s_ : (Sl × Int) => Zae.L1 a0 j11 r12 r13 x14 s_.1 s_.2) (Sl.nil, 0)
theorem Zae.K4_ok (a0 : Zas) (b1 : Nat) (j11 : ByteArray) :
  SJ Zae.cx [.code (c2 (c2 (c2 (c2 (c2 (c2 Zae.B))))))] [(1, .pointer (some (pt b1 0))), (3, .string j11)] [(b1, Zaq.enc a0)] (Zae.K4 a0 j11) (rt Zae.out) := by
 unfold Zae.K4
 exact SJ.seq <| J.D [0, 1, 2, 4, 5, 3, 6, 7, 8, 9] Zc6 <| J.k 2 0 rfl Ty25 (ZdD _) <| J.k 1 0 rfl Ty25 (Zdy _) <| OJ.call (d := 48) (g := 27) (ats := #[9, 25]) (args := [.const (.string Zna), .tmp 47]) (owed := [⟨5, 25, (pt b1 9), ZaF.val a0.To⟩]) F27 (Zhm Zna a0.From) fun r12 => OW.known (j := 0) (q := a0.To) Ty25 rfl (Zdy a0) <| OW.nil <| J.C 0 F27 (Zhm _ _) fun r13 => OJ.cat (d := 52) (T := 9) (yT := 9) (y := .tmp 48) (z := .tmp 51) (p := r12) (q := r13) <| OJ.cat (d := 53) (T := 9) (yT := 9) (y := .tmp 45) (z := .tmp 52) (p := j11) (q := (r12 ++ r13)) <| J.z 1 <| SJ.sr 1 <| J.z 1 <| SJ.seq <| SJ.sr 3 <| J.l 0 Ty65 fun x14 => J.z 2 <| SJ.block (id := 0) <| J.L (Zae.L1_ok a0 b1 j11 r12 r13 x14)
noncomputable def Zae.K5 (a0 : Zas) (j9 : ByteArray) : M ByteArray :=
 if a0.Vid > 0 then
  Zbl a0.Vid >>= fun r58 =>
  chk (((Zl0.size + r58.size : Nat) : Int) ≤ 9223372036854775807) >>= fun _ =>
  chk (((j9.size + (Zl0 ++ r58).size : Nat) : Int) ≤ 9223372036854775807) >>= fun _ =>
  Zae.K4 a0 (j9 ++ (Zl0 ++ r58))
 else
  Zae.K4 a0 j9
theorem Zae.K5_ok (a0 : Zas) (b1 : Nat) (j9 : ByteArray) :
  SJ Zae.cx [.code (c2 (c2 (c2 (c2 (c2 Zae.B)))))] [(1, .pointer (some (pt b1 0))), (3, .string j9)] [(b1, Zaq.enc a0)] (Zae.K5 a0 j9) (rt Zae.out) := by
 unfold Zae.K5
 refine SJ.seq <| SJ.sr 3 <| J.k 1 0 rfl Ty3 (Zdl _) <| J.z 1 <| J.f ?_ ?_
 ·exact SJ.rg 7 <| J.k 2 0 rfl Ty3 (Zdl _) <| J.C 0 F25 (ZbL _) fun r58 => OJ.cat (d := 43) (T := 9) (yT := 9) (y := .const (.string Zl0)) (z := .tmp 42) (p := Zl0) (q := r58) <| OJ.cat (d := 44) (T := 9) (yT := 9) (y := .tmp 39) (z := .tmp 43) (p := j9) (q := (Zl0 ++ r58)) <| J.z 1 <| J.q <| Zae.K4_ok a0 b1 (j9 ++ (Zl0 ++ r58))
 ·exact SJ.skip <| J.q <| Zae.K4_ok a0 b1 j9
noncomputable def Zae.K6 (a0 : Zas) (j6 : ByteArray) : M ByteArray :=
 Zbt a0 >>= fun r7 =>
 chk (((j6.size + r7.size : Nat) : Int) ≤ 9223372036854775807) >>= fun _ =>
 if a0.In > 0 then
  Zbl (IntKind.wrap .i64 (a0.In - 1)) >>= fun r60 =>
  chk (((Zl1.size + r60.size : Nat) : Int) ≤ 9223372036854775807) >>= fun _ =>
  chk ((((j6 ++ r7).size + (Zl1 ++ r60).size : Nat) : Int) ≤ 9223372036854775807) >>= fun _ =>
  Zae.K5 a0 ((j6 ++ r7) ++ (Zl1 ++ r60))
 else
  Zae.K5 a0 (j6 ++ r7)
theorem Zae.K6_ok (a0 : Zas) (b1 : Nat) (j6 : ByteArray) :
  SJ Zae.cx [.code (c2 (c2 (c2 Zae.B)))] [(1, .pointer (some (pt b1 0))), (3, .string j6)] [(b1, Zaq.enc a0)] (Zae.K6 a0 j6) (rt Zae.out) := by
 unfold Zae.K6
 refine SJ.sr 5 <| J.k 1 0 rfl Ty27 (At.whole _) <| J.C 0 F26 (Zlb _) fun r7 => OJ.cat (d := 25) (T := 9) (yT := 9) (y := .tmp 22) (z := .tmp 24) (p := j6) (q := r7) <| J.z 1 <| SJ.seq <| SJ.sr 3 <| J.k 1 0 rfl Ty3 (Zdz _) <| J.z 1 <| J.f ?_ ?_
 ·exact SJ.rg 8 <| J.k 2 0 rfl Ty3 (Zdz _) <| J.C 1 F25 (ZbL _) fun r60 => OJ.cat (d := 34) (T := 9) (yT := 9) (y := .const (.string Zl1)) (z := .tmp 33) (p := Zl1) (q := r60) <| OJ.cat (d := 35) (T := 9) (yT := 9) (y := .tmp 29) (z := .tmp 34) (p := (j6 ++ r7)) (q := (Zl1 ++ r60)) <| J.z 1 <| J.q <| Zae.K5_ok a0 b1 ((j6 ++ r7) ++ (Zl1 ++ r60))
 ·exact SJ.skip <| J.q <| Zae.K5_ok a0 b1 (j6 ++ r7)
noncomputable def Zae (a0 : Zas) : M ByteArray :=
 slot 27 >>= fun b1 =>
 ld cL ⟨0, 0, none⟩ >>= fun x2 =>
 idx x2.a x2.len (IntKind.wrap .i64 (a0.Act - 1)) 1 >>= fun p3 =>
 ld cS p3 >>= fun x4 =>
 if a0.Class > 0 then
  Zbl a0.Class >>= fun r62 =>
  chk (((Zl2.size + r62.size : Nat) : Int) ≤ 9223372036854775807) >>= fun _ =>
  chk (((x4.size + (Zl2 ++ r62).size : Nat) : Int) ≤ 9223372036854775807) >>= fun _ =>
  Zae.K6 a0 (x4 ++ (Zl2 ++ r62))
 else
  Zae.K6 a0 x4
theorem Zj5 (a0 : Zas) : Ref Tryd.prog 15 [Zaq.val a0] (Zae a0) Zae.out := by
 refine J.Fn Tryd.func15 ?_
 unfold Zae
 refine SJ.sr 2 <| J.b 0 Zaq a0 fun b1 => J.z 1 <| SJ.sr 7 <| J.l 0 Ty65 fun x2 => J.k 1 0 rfl Ty3 (ZbV _) <| J.i 1 fun p3 => J.l 0 Ty9 fun x4 => J.z 1 <| SJ.seq <| SJ.sr 3 <| J.k 1 0 rfl Ty3 (Zco _) <| J.z 1 <| J.f ?_ ?_
 ·exact SJ.rg 7 <| J.k 2 0 rfl Ty3 (Zco _) <| J.C 0 F25 (ZbL _) fun r62 => OJ.cat (d := 20) (T := 9) (yT := 9) (y := .const (.string Zl2)) (z := .tmp 19) (p := Zl2) (q := r62) <| OJ.cat (d := 21) (T := 9) (yT := 9) (y := .tmp 16) (z := .tmp 20) (p := x4) (q := (Zl2 ++ r62)) <| J.z 1 <| J.q <| Zae.K6_ok a0 b1 (x4 ++ (Zl2 ++ r62))
 ·exact SJ.skip <| J.q <| Zae.K6_ok a0 b1 x4

/-! ### weir/rules.PrintRule: function 7 -/
noncomputable def Zby.out (r_ : (ByteArray × Int)) : Value := .tuple #[.string r_.1, .int .i64 r_.2]
noncomputable def Zby (a0 : Zas) : M (ByteArray × Int) :=
 slot 27 >>= fun b1 =>
 ZaP a0 >>= fun r2 =>
 if r2 ≠ 0 then
  pure (ByteArray.empty, r2)
 else
  Zae a0 >>= fun r3 =>
  pure (r3, 0)
theorem ZdU (a0 : Zas) : Ref Tryd.prog 7 [Zaq.val a0] (Zby a0) Zby.out := by
 refine J.Fn Tryd.func7 ?_
 unfold Zby
 refine SJ.sr 3 <| J.b 0 Zaq a0 fun b1 => J.z 2 <| SJ.seq <| SJ.sr 3 <| J.k 0 0 rfl Ty27 (At.whole _) <| J.C 0 F6 (Zfc _) fun r2 => J.z 1 <| SJ.sr 2 <| J.z 2 <| J.f ?_ ?_
 ·exact SJ.sr 3 <| J.z 3 <| J.r
 ·exact SJ.skip <| SJ.sr 4 <| J.k 0 0 rfl Ty27 (At.whole _) <| J.C 0 F15 (Zj5 _) fun r3 => J.z 2 <| J.r

/-! ### weir/weirref16.SameSide: function 22 -/
noncomputable def Zag.B : Code := bod Tryd.f22
noncomputable def Zag.cx : Fx := ⟨Tryd.prog, 22, Tryd.f22, none⟩
noncomputable def Zag.out (r_ : Bool) : Value := .bool r_
noncomputable def Zag.F1 (a0 : Zan) (a1 : Zan) (b1 : Nat) (b2 : Nat) : LF Int Bool := ⟨[.inBlock 2, .code (c2 (c2 (c2 (c2 Zag.B))))], c1 (c2 (c1 (c2 (c2 (c2 Zag.B))))), fun s_ => [(2, .pointer (some (pt b1 0))), (3, .pointer (some (pt b2 0))), (6, .int .i64 s_)], fun s_ => [(b2, ZaF.enc a1), (b1, ZaF.enc a0)], (rt Zag.out)⟩
noncomputable def Zag.L1 (a0 : Zan) (a1 : Zan) (s12 : Int) : M (LS Int Bool) :=
 if s12 < (a0.Ports.len : Int) then
  draw >>= fun _ =>
  idx a0.Ports.a a0.Ports.len s12 2 >>= fun p19 =>
  ld ZaS p19 >>= fun x20 =>
  idx a1.Ports.a a1.Ports.len s12 2 >>= fun p21 =>
  ld ZaS p21 >>= fun x22 =>
  if ¬ (x20 = x22) then
   pure (LS.done false)
  else
   pure (LS.next (IntKind.wrap .i64 (s12 + 1)))
 else
  pure (LS.done true)
theorem Zag.L1_ok (a0 : Zan) (a1 : Zan) (b1 : Nat) (b2 : Nat) : LJ Zag.cx (Zag.F1 a0 a1 b1 b2) (fun s_ => Zag.L1 a0 a1 s_) := by
 rintro s12
 show SJ _ _ _ _ (Zag.L1 a0 a1 s12) _
 unfold Zag.L1
 refine SJ.seq <| SJ.sr 5 <| J.k 2 1 rfl Ty23 (Zbb _) <| J.z 2 <| J.f ?_ ?_
 ·refine SJ.skip <| SJ.seq <| SJ.block (id := 3) <| SJ.seq <| J.R 11 Zc6 <| J.k 1 1 rfl Ty23 (Zbb _) <| J.i 1 fun p19 => J.l 0 Ty64 fun x20 => J.k 1 0 rfl Ty23 (Zbb _) <| J.i 1 fun p21 => J.l 0 Ty64 fun x22 => OJ.neq (d := 65) (T := 64) (yT := 64) (y := .tmp 59) (z := .tmp 64) (cd := ZaS) (p := x20) (q := x22) rfl Eq64 <| J.z 0 <| J.f ?_ ?_
  ·exact SJ.sr 1 <| J.z 1 <| J.r
  ·exact SJ.skip <| SJ.inBlock <| SJ.rg 3 <| J.z 3 <| J.o rfl
 ·exact SJ.exit (id := 2) (by rfl) <| SJ.sr 1 <| J.z 1 <| J.r
noncomputable def Zag.K1 (a0 : Zan) (a1 : Zan) : M Bool :=
 Zck (fun s_ : Int => Zag.L1 a0 a1 s_) 0
theorem Zag.K1_ok (a0 : Zan) (a1 : Zan) (b1 : Nat) (b2 : Nat) :
  SJ Zag.cx [.code (c2 (c2 (c2 Zag.B)))] [(2, .pointer (some (pt b1 0))), (3, .pointer (some (pt b2 0)))] [(b2, ZaF.enc a1), (b1, ZaF.enc a0)] (Zag.K1 a0 a1) (rt Zag.out) := by
 unfold Zag.K1
 exact SJ.seq <| SJ.sr 1 <| J.z 1 <| SJ.block (id := 2) <| J.L (Zag.L1_ok a0 a1 b1 b2)
noncomputable def Zag.F2 (a0 : Zan) (a1 : Zan) (b1 : Nat) (b2 : Nat) : LF Int Bool := ⟨[.inBlock 0, .code (c2 (c2 (c2 Zag.B)))], c1 (c2 (c1 (c2 (c2 Zag.B)))), fun s_ => [(2, .pointer (some (pt b1 0))), (3, .pointer (some (pt b2 0))), (5, .int .i64 s_)], fun s_ => [(b2, ZaF.enc a1), (b1, ZaF.enc a0)], (rt Zag.out)⟩
noncomputable def Zag.L2 (a0 : Zan) (a1 : Zan) (s5 : Int) : M (LS Int Bool) :=
 if s5 < (a0.Nets.len : Int) then
  draw >>= fun _ =>
  idx a0.Nets.a a0.Nets.len s5 18 >>= fun p25 =>
  ld Zav p25 >>= fun x26 =>
  idx a1.Nets.a a1.Nets.len s5 18 >>= fun p27 =>
  ld Zav p27 >>= fun x28 =>
  if ¬ (x26 = x28) then
   pure (LS.done false)
  else
   pure (LS.next (IntKind.wrap .i64 (s5 + 1)))
 else
  (Zag.K1 a0 a1) >>= fun b => pure (LS.done b)
theorem Zag.L2_ok (a0 : Zan) (a1 : Zan) (b1 : Nat) (b2 : Nat) : LJ Zag.cx (Zag.F2 a0 a1 b1 b2) (fun s_ => Zag.L2 a0 a1 s_) := by
 rintro s5
 show SJ _ _ _ _ (Zag.L2 a0 a1 s5) _
 unfold Zag.L2
 refine SJ.seq <| SJ.sr 5 <| J.k 2 1 rfl Ty22 (Zbi _) <| J.z 2 <| J.f ?_ ?_
 ·refine SJ.skip <| SJ.seq <| SJ.block (id := 1) <| SJ.seq <| J.R 11 Zc6 <| J.k 1 1 rfl Ty22 (Zbi _) <| J.i 1 fun p25 => J.l 0 Ty61 fun x26 => J.k 1 0 rfl Ty22 (Zbi _) <| J.i 1 fun p27 => J.l 0 Ty61 fun x28 => OJ.neq (d := 47) (T := 61) (yT := 61) (y := .tmp 41) (z := .tmp 46) (cd := Zav) (p := x26) (q := x28) rfl Eq61 <| J.z 0 <| J.f ?_ ?_
  ·exact SJ.sr 1 <| J.z 1 <| J.r
  ·exact SJ.skip <| SJ.inBlock <| SJ.rg 3 <| J.z 3 <| J.o rfl
 ·exact SJ.exit (id := 0) (by rfl) <| J.q <| SJ.done <| Zag.K1_ok a0 a1 b1 b2
noncomputable def Zag (a0 : Zan) (a1 : Zan) : M Bool :=
 slot 25 >>= fun b1 =>
 slot 25 >>= fun b2 =>
 (if ¬ (a0.Not = a1.Not) then
   pure true
  else
   pure ((a0.Nets.len : Int) != (a1.Nets.len : Int))) >>= fun y3 =>
 (if y3 = true then
   pure true
  else
   pure ((a0.Ports.len : Int) != (a1.Ports.len : Int))) >>= fun y4 =>
 if y4 = true then
  pure false
 else
  Zck (fun s_ : Int => Zag.L2 a0 a1 s_) 0
theorem Zen (a0 : Zan) (a1 : Zan) : Ref Tryd.prog 22 [ZaF.val a0, ZaF.val a1] (Zag a0 a1) Zag.out := by
 refine J.Fn Tryd.func22 ?_
 unfold Zag
 refine SJ.sr 3 <| J.b 0 ZaF a0 fun b1 => J.b 0 ZaF a1 fun b2 => J.z 1 <| SJ.seq <| SJ.sr 23 <| J.k 1 1 rfl Ty4 (Zd6 _) <| J.k 1 0 rfl Ty4 (Zd6 _) <| J.j 2 7 .bool ?_ ?_ fun y3 => ?_
 ·exact J.e 8
 ·exact J.k 1 1 rfl Ty22 (Zbi _) <| J.k 2 0 rfl Ty22 (Zbi _) <| J.e 3
 ·refine J.j 1 7 .bool ?_ ?_ fun y4 => ?_
  ·exact J.e 8
  ·exact J.k 1 1 rfl Ty23 (Zbb _) <| J.k 2 0 rfl Ty23 (Zbb _) <| J.e 3
  ·refine J.z 0 <| J.f ?_ ?_
   ·exact SJ.sr 1 <| J.z 1 <| J.r
   ·exact SJ.skip <| SJ.seq <| SJ.sr 1 <| J.z 1 <| SJ.block (id := 0) <| J.L (Zag.L2_ok a0 a1 b1 b2)

/-! ### weir/weirref16.Same: function 11 -/
noncomputable def Zb8.out (r_ : Bool) : Value := .bool r_
noncomputable def Zb8 (a0 : Zas) (a1 : Zas) : M Bool :=
 slot 27 >>= fun b1 =>
 slot 27 >>= fun b2 =>
 (if a0.Act ≠ a1.Act then
   pure true
  else
   pure (a0.Class != a1.Class)) >>= fun y3 =>
 (if y3 = true then
   pure true
  else
   pure (a0.Kind != a1.Kind)) >>= fun y4 =>
 (if y4 = true then
   pure true
  else
   pure (a0.Proto != a1.Proto)) >>= fun y5 =>
 (if y5 = true then
   pure true
  else
   pure (a0.In != a1.In)) >>= fun y6 =>
 (if y6 = true then
   pure true
  else
   pure (a0.Vid != a1.Vid)) >>= fun y7 =>
 if y7 = true then
  pure false
 else
  (if a0.Set ≠ a1.Set then
    pure true
   else
    pure (a0.Clear != a1.Clear)) >>= fun y8 =>
  (if y8 = true then
    pure true
   else
    pure (a0.Type_ != a1.Type_)) >>= fun y9 =>
  (if y9 = true then
    pure true
   else
    pure (!(a0.Pieces == a1.Pieces))) >>= fun y10 =>
  if y10 = true then
   pure false
  else
   Zag a0.From a1.From >>= fun r11 =>
   (if r11 = true then
     Zag a0.To a1.To >>= fun r12 =>
     pure r12
    else
     pure false) >>= fun y13 =>
   pure y13
theorem Zea (a0 : Zas) (a1 : Zas) : Ref Tryd.prog 11 [Zaq.val a0, Zaq.val a1] (Zb8 a0 a1) Zb8.out := by
 refine J.Fn Tryd.func11 ?_
 unfold Zb8
 refine SJ.sr 3 <| J.b 0 Zaq a0 fun b1 => J.b 0 Zaq a1 fun b2 => J.z 1 <| SJ.seq <| SJ.sr 40 <| J.k 1 1 rfl Ty3 (ZbV _) <| J.k 1 0 rfl Ty3 (ZbV _) <| J.j 2 5 .bool ?_ ?_ fun y3 => ?_
 ·exact J.e 6
 ·exact J.k 1 1 rfl Ty3 (Zco _) <| J.k 1 0 rfl Ty3 (Zco _) <| J.e 2
 ·refine J.j 1 5 .bool ?_ ?_ fun y4 => ?_
  ·exact J.e 6
  ·exact J.k 1 1 rfl Ty3 (Zbz _) <| J.k 1 0 rfl Ty3 (Zbz _) <| J.e 2
  ·refine J.j 1 5 .bool ?_ ?_ fun y5 => ?_
   ·exact J.e 6
   ·exact J.k 1 1 rfl Ty3 (Zbk _) <| J.k 1 0 rfl Ty3 (Zbk _) <| J.e 2
   ·refine J.j 1 5 .bool ?_ ?_ fun y6 => ?_
    ·exact J.e 6
    ·exact J.k 1 1 rfl Ty3 (Zdz _) <| J.k 1 0 rfl Ty3 (Zdz _) <| J.e 2
    ·refine J.j 1 5 .bool ?_ ?_ fun y7 => ?_
     ·exact J.e 6
     ·exact J.k 1 1 rfl Ty3 (Zdl _) <| J.k 1 0 rfl Ty3 (Zdl _) <| J.e 2
     ·refine J.z 0 <| J.f ?_ ?_
      ·exact SJ.sr 1 <| J.z 1 <| J.r
      ·refine SJ.skip <| SJ.seq <| SJ.sr 26 <| J.k 1 1 rfl Ty3 (Zcc _) <| J.k 1 0 rfl Ty3 (Zcc _) <| J.j 2 5 .bool ?_ ?_ fun y8 => ?_
       ·exact J.e 6
       ·exact J.k 1 1 rfl Ty3 (ZbR _) <| J.k 1 0 rfl Ty3 (ZbR _) <| J.e 2
       ·refine J.j 1 5 .bool ?_ ?_ fun y9 => ?_
        ·exact J.e 6
        ·exact J.k 1 1 rfl Ty3 (Zcn _) <| J.k 1 0 rfl Ty3 (Zcn _) <| J.e 2
        ·refine J.j 1 5 .bool ?_ ?_ fun y10 => ?_
         ·exact J.e 6
         ·exact J.k 1 1 rfl Ty4 (Zdc _) <| J.k 1 0 rfl Ty4 (Zdc _) <| J.e 2
         ·refine J.z 0 <| J.f ?_ ?_
          ·exact SJ.sr 1 <| J.z 1 <| J.r
          ·refine SJ.skip <| SJ.sr 13 <| J.k 1 1 rfl Ty25 (ZdD _) <| J.k 1 0 rfl Ty25 (ZdD _) <| J.C 0 F22 (Zen _ _) fun r11 => J.j 1 5 .bool ?_ ?_ fun y13 => ?_
           ·exact J.k 1 1 rfl Ty25 (Zdy _) <| J.k 1 0 rfl Ty25 (Zdy _) <| J.C 0 F22 (Zen _ _) fun r12 => J.e 1
           ·exact J.e 6
           ·exact J.z 1 <| J.r

/-! ### weir/weirlaw16.started: function 9 -/
noncomputable def ZbB.out (r_ : Bool) : Value := .bool r_
noncomputable def ZbB  : M Bool :=
 Zb9 >>= fun r1 =>
 slot 27 >>= fun b2 =>
 Zah r1.1 >>= fun r3 =>
 slot 27 >>= fun b4 =>
 Zby r1.2 >>= fun r5 =>
 ZbC r3.2.1 >>= fun r6 =>
 (if r6 = 0 then
   pure (r3.2.2 == 0)
  else
   pure false) >>= fun y7 =>
 (if y7 = true then
   Zb8 r3.1 r1.2 >>= fun r8 =>
   pure r8
  else
   pure false) >>= fun y9 =>
 (if y9 = true then
   ZbC r5.2 >>= fun r10 =>
   pure (r10 == 0)
  else
   pure false) >>= fun y11 =>
 (if y11 = true then
   pure (r5.1.toList == r1.1.toList)
  else
   pure false) >>= fun y12 =>
 (if y12 = true then
   ZaP r1.2 >>= fun r13 =>
   ZbC r13 >>= fun r14 =>
   pure (r14 == 0)
  else
   pure false) >>= fun y15 =>
 pure y15
theorem Zdu  : Ref Tryd.prog 9 [] (ZbB) ZbB.out := by
 refine J.Fn Tryd.func9 ?_
 unfold ZbB
 refine SJ.sr 1 <| J.z 1 <| SJ.sr 7 <| J.C 0 F16 ZhT fun r1 => J.a 3 Ty27 fun b2 => J.s 1 0 rfl Ty27 (Upd.w r1.2) <| J.z 0 <| SJ.sr 10 <| J.C 1 F10 (ZdV _) fun r3 => J.a 4 Ty27 fun b4 => J.s 0 0 rfl Ty27 (Upd.w r3.1) <| J.z 2 <| SJ.sr 7 <| J.k 0 1 rfl Ty27 (At.whole _) <| J.C 0 F7 (ZdU _) fun r5 => J.z 5 <| SJ.sr 29 <| J.C 1 F8 (Zb0 _) fun r6 => J.j 2 2 .bool ?_ ?_ fun y7 => ?_
 ·exact J.e 3
 ·exact J.e 3
 ·refine J.j 1 3 .bool ?_ ?_ fun y9 => ?_
  ·exact J.k 0 0 rfl Ty27 (At.whole _) <| J.k 0 1 rfl Ty27 (At.whole _) <| J.C 0 F11 (Zea _ _) fun r8 => J.e 1
  ·exact J.e 4
  ·refine J.j 1 3 .bool ?_ ?_ fun y11 => ?_
   ·exact J.C 1 F8 (Zb0 _) fun r10 => J.e 2
   ·exact J.e 4
   ·refine J.j 1 3 .bool ?_ ?_ fun y12 => ?_
    ·exact J.e 4
    ·exact J.e 4
    ·refine J.j 1 4 .bool ?_ ?_ fun y15 => ?_
     ·exact J.k 0 1 rfl Ty27 (At.whole _) <| J.C 0 F6 (Zfc _) fun r13 => J.C 0 F8 (Zb0 _) fun r14 => J.e 2
     ·exact J.e 5
     ·exact J.z 1 <| J.r

/-! ### weir/weirlaw16.RulesAgain: function 4 -/
noncomputable def ZbH.out (r_ : Bool) : Value := .bool r_
noncomputable def ZbH (a0 : ByteArray) : M Bool :=
 Zah a0 >>= fun r1 =>
 slot 27 >>= fun b2 =>
 ZbC r1.2.1 >>= fun r3 =>
 if r3 ≠ 0 then
  ZbB >>= fun r9 =>
  (if r9 = true then
    pure (decide (r1.2.2 ≥ 0))
   else
    pure false) >>= fun y10 =>
  (if y10 = true then
    pure (decide (r1.2.2 ≤ (a0.size : Int)))
   else
    pure false) >>= fun y11 =>
  (if y11 = true then
    Zb8 r1.1 Zal >>= fun r12 =>
    pure r12
   else
    pure false) >>= fun y13 =>
  pure y13
 else
  Zby r1.1 >>= fun r14 =>
  ZbC r14.2 >>= fun r15 =>
  (if r15 ≠ 0 then
    pure true
   else
    ZaP r1.1 >>= fun r16 =>
    ZbC r16 >>= fun r17 =>
    pure (r17 != 0)) >>= fun y18 =>
  (if y18 = true then
    pure true
   else
    pure (r1.2.2 != 0)) >>= fun y19 =>
  if y19 = true then
   pure false
  else
   if (r14.1.size : Int) > 1024 then
    ZbB >>= fun r21 =>
    pure r21
   else
    Zah r14.1 >>= fun r22 =>
    slot 27 >>= fun b23 =>
    Zby r22.1 >>= fun r24 =>
    ZbB >>= fun r25 =>
    (if r25 = true then
      ZbC r22.2.1 >>= fun r26 =>
      pure (r26 == 0)
     else
      pure false) >>= fun y27 =>
    (if y27 = true then
      ZbC r24.2 >>= fun r28 =>
      pure (r28 == 0)
     else
      pure false) >>= fun y29 =>
    (if y29 = true then
      pure (r14.1.toList == r24.1.toList)
     else
      pure false) >>= fun y30 =>
    (if y30 = true then
      Zb8 r22.1 r1.1 >>= fun r31 =>
      pure r31
     else
      pure false) >>= fun y32 =>
    pure y32
theorem ZfD (a0 : ByteArray) : Ref Tryd.prog 4 [.string a0] (ZbH a0) ZbH.out := by
 refine J.Fn Tryd.func4 ?_
 unfold ZbH
 refine SJ.sr 1 <| J.z 1 <| SJ.sr 10 <| J.C 1 F10 (ZdV _) fun r1 => J.a 4 Ty27 fun b2 => J.s 0 0 rfl Ty27 (Upd.w r1.1) <| J.z 2 <| SJ.seq <| SJ.sr 3 <| J.C 1 F8 (Zb0 _) fun r3 => J.z 1 <| J.f ?_ ?_
 ·refine SJ.sr 17 <| J.C 0 F9 Zdu fun r9 => J.j 1 2 .bool ?_ ?_ fun y10 => ?_
  ·exact J.e 3
  ·exact J.e 3
  ·refine J.j 1 4 .bool ?_ ?_ fun y11 => ?_
   ·exact J.e 5
   ·exact J.e 5
   ·refine J.j 1 3 .bool ?_ ?_ fun y13 => ?_
    ·exact J.k 0 0 rfl Ty27 (At.whole _) <| J.u 0 Ty27 .nil <| J.C 0 F11 (Zea _ _) fun r12 => J.e 1
    ·exact J.e 4
    ·exact J.z 1 <| J.r
 ·refine SJ.skip <| SJ.sr 7 <| J.k 0 0 rfl Ty27 (At.whole _) <| J.C 0 F7 (ZdU _) fun r14 => J.z 5 <| SJ.seq <| SJ.sr 13 <| J.C 1 F8 (Zb0 _) fun r15 => J.j 2 4 .bool ?_ ?_ fun y18 => ?_
  ·exact J.e 5
  ·exact J.k 0 0 rfl Ty27 (At.whole _) <| J.C 0 F6 (Zfc _) fun r16 => J.C 0 F8 (Zb0 _) fun r17 => J.e 2
  ·refine J.j 1 2 .bool ?_ ?_ fun y19 => ?_
   ·exact J.e 3
   ·exact J.e 3
   ·refine J.z 0 <| J.f ?_ ?_
    ·exact SJ.sr 1 <| J.z 1 <| J.r
    ·refine SJ.skip <| SJ.seq <| SJ.sr 3 <| J.z 3 <| J.f ?_ ?_
     ·exact SJ.sr 2 <| J.C 0 F9 Zdu fun r21 => J.z 1 <| J.r
     ·refine SJ.skip <| SJ.sr 10 <| J.C 1 F10 (ZdV _) fun r22 => J.a 4 Ty27 fun b23 => J.s 0 0 rfl Ty27 (Upd.w r22.1) <| J.z 2 <| SJ.sr 7 <| J.k 0 0 rfl Ty27 (At.whole _) <| J.C 0 F7 (ZdU _) fun r24 => J.z 5 <| SJ.sr 22 <| J.C 0 F9 Zdu fun r25 => J.j 1 3 .bool ?_ ?_ fun y27 => ?_
      ·exact J.C 1 F8 (Zb0 _) fun r26 => J.e 2
      ·exact J.e 4
      ·refine J.j 1 3 .bool ?_ ?_ fun y29 => ?_
       ·exact J.C 1 F8 (Zb0 _) fun r28 => J.e 2
       ·exact J.e 4
       ·refine J.j 1 3 .bool ?_ ?_ fun y30 => ?_
        ·exact J.e 4
        ·exact J.e 4
        ·refine J.j 1 3 .bool ?_ ?_ fun y32 => ?_
         ·exact J.k 0 0 rfl Ty27 (At.whole _) <| J.k 0 1 rfl Ty27 (At.whole _) <| J.C 0 F11 (Zea _ _) fun r31 => J.e 1
         ·exact J.e 4
         ·exact J.z 1 <| J.r
end Go.Proofs.YtpmhinidiplhiaaDoor.Lx
